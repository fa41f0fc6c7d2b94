/- A view's own map; Put, walked. -/
import Derived.Test.YthaipkfaaojppaaV1
import Derived.Maps.OwnSet
import Derived.Maps.OwnOps
import Derived.Lib.SlKeysI
import Derived.Deep.RegionWith
namespace Go.Proofs.Ythaipkfaaojppaa.Vw
open Go.RowKit Go.Proofs.YthaipkfaaojppaaW.PrintWords Go.Proofs.YthaipkfaaojppaaW.PrintLast Go.Proofs.YthaipkfaaojppaaW.PrintMore
open Go.Maps (Keyed int_keyed keyOf_int_mk)
open Go.ChangeMaps
set_option linter.unusedVariables false
/-- Nothing has turned but block g, and what is new. -/
structure Tch (g : Nat) (w w' : World) : Prop where
  os : w'.os = w.os
  tape : w'.tape = w.tape
  output : w'.output = w.output
  size : w.heap.size ≤ w'.heap.size
  block : ∀ k, k < w.heap.size → k ≠ g → w'.heap[k]? = w.heap[k]?
theorem Tch.refl (g : Nat) (w : World) : Tch g w w := ⟨rfl, rfl, rfl, Nat.le_refl _, fun _ _ _ => rfl⟩
theorem Tch.trans {g : Nat} {a b c : World} (h : Tch g a b) (k : Tch g b c) : Tch g a c :=
  ⟨k.os.trans h.os, k.tape.trans h.tape, k.output.trans h.output, Nat.le_trans h.size k.size, fun i hi hg => (k.block i (Nat.lt_of_lt_of_le hi h.size) hg).trans (h.block i hi hg)⟩
theorem Tch.ofBelow {g : Nat} {a b : World} (h : Below a.heap.size a b) : Tch g a b := ⟨h.os, h.tape, h.output, h.size, fun i hi _ => h.block i hi⟩
theorem Tch.below {g B : Nat} {a b : World} (h : Tch g a b) (h1 : B ≤ g) (h2 : B ≤ a.heap.size) : Below B a b :=
  ⟨h.os, h.tape, h.output, h.size, fun k hk => h.block k (by omega) (by omega)⟩
theorem Tch.grown {g : Nat} {w w' : World} (h : w.grownBy w' (some g)) : Tch g w w' :=
  ⟨h.os, h.tape, h.output, h.size, fun k hk hg => h.block k hk (by simpa using hg)⟩
def MapBlk (w : World) (M : Nat) : Prop := ∃ es clock, w.heap[M]? = some (.map es clock)
theorem Tch.cm {M : Nat} {w w' : World} (h : Tch M w w') (hm : MapBlk w M) : Cm w w' := by
  intro p v e
  have hlt := cell_lt e
  have hne : p.block ≠ M := by
    obtain ⟨es, clock, hb⟩ := hm
    intro hh
    unfold World.cell? at e
    rw [hh, hb] at e
    simp at e
  exact (World.cell?_of_block (w := w) (h.block _ hlt hne)).trans e
abbrev DV := DataW Value
def RH (v : Value) : Option (DV × List MemPlace) := some (.held v, [])
theorem law : Keyed Try.prog 3 := int_keyed Try.underlying3
def kl (k : Int) : Lit := .int .i64 k
theorem key_lit (k : Int) : WideAt.IsKeyLit (kl k) := by simp [kl, WideAt.IsKeyLit]
def In64 (k : Int) : Prop := -9223372036854775808 ≤ k ∧ k ≤ 9223372036854775807
theorem key_of {k : Int} (h : In64 k) : keyOf Try.prog 3 (.int .i64 k) = some (kl k) := keyOf_int_mk Try.underlying3 (WalkArith.wf_i64 h)
theorem zero44 (w : World) : (zeroValue 44).run Try.prog w = .ok (.slice none 0 0) w := by kernel_rfl
def MapAt (w : World) (T : Nat → Prop) (D : DV) (k : Int) : Option (List Int) → Prop
  | none => Maps.has D (kl k) = false
  | some bs => Maps.has D (kl k) = true ∧ bs.length ≤ 1000000 ∧ ∃ v, D.atKey (kl k) (.held (.slice none 0 0)) = .held v ∧ FrB w 0 v bs ∧ ∀ b, v.ownBlock = some b → T b
structure OwnD (w : World) (M n : Nat) (D : DV) (f : Int → Option (List Int)) (T : Nat → Prop) : Prop where
  own : w.ownsMap Try.prog 3 RH M n D
  at' : ∀ k, In64 k → MapAt w T D k (f k)
/-- Block M is a map: at the key k it holds a row that reads as f k; the rows lie in blocks of T. -/
def OwnT (w : World) (M n : Nat) (f : Int → Option (List Int)) (T : Nat → Prop) : Prop := ∃ D, OwnD w M n D f T
abbrev Own (w : World) (M n : Nat) (f : Int → Option (List Int)) : Prop := OwnT w M n f (fun _ => True)
theorem FrB.move {w w1 : World} {base : Nat} {v : Value} {bs : List Int} (h : FrB w base v bs) (hm : ∀ b, v.ownBlock = some b → w1.heap[b]? = w.heap[b]?) : FrB w1 base v bs := own_move h hm
theorem FrB.ne {w : World} {base b M : Nat} {v : Value} {bs : List Int} (h : FrB w base v bs) (hb : v.ownBlock = some b) (hm : MapBlk w M) : b ≠ M := by
  obtain ⟨cells, hc⟩ := own_typed h b hb
  obtain ⟨es, clock, he⟩ := hm
  rintro rfl
  rw [hc] at he
  simp at he
theorem MapAt.move {w w1 : World} {T : Nat → Prop} {D : DV} {k : Int} {o : Option (List Int)} (h : MapAt w T D k o) (hm : ∀ b, T b → b < w.heap.size → (∃ cells, w.heap[b]? = some (.cells cells 5 (0, 0))) → w1.heap[b]? = w.heap[b]?) : MapAt w1 T D k o := by
  cases o with
  | none => exact h
  | some bs =>
    obtain ⟨h1, h2, v, h3, h4, h5⟩ := h
    exact ⟨h1, h2, v, h3, h4.move (fun b hb => hm b (h5 b hb) (own_lt h4 b hb) (own_typed h4 b hb)), h5⟩
theorem MapAt.mono {w : World} {T T' : Nat → Prop} {D : DV} {k : Int} {o : Option (List Int)} (h : MapAt w T D k o) (hT : ∀ b, T b → b < w.heap.size → T' b) : MapAt w T' D k o := by
  cases o with
  | none => exact h
  | some bs =>
    obtain ⟨h1, h2, v, h3, h4, h5⟩ := h
    exact ⟨h1, h2, v, h3, h4, fun b hb => hT b (h5 b hb) (own_lt h4 b hb)⟩
section
variable {w w1 : World} {M n : Nat} {f : Int → Option (List Int)} {T T' : Nat → Prop}
theorem OwnT.blk (h : OwnT w M n f T) : MapBlk w M := by
  obtain ⟨D, ⟨es, clock, hb, _⟩, _⟩ := h
  exact ⟨es, clock, hb⟩
theorem OwnT.lt (h : OwnT w M n f T) : M < w.heap.size := by
  obtain ⟨D, h, _⟩ := h
  exact h.lt
theorem OwnT.mono (h : OwnT w M n f T) (hT : ∀ b, T b → b < w.heap.size → T' b) : OwnT w M n f T' := by
  obtain ⟨D, h, ha⟩ := h
  exact ⟨D, h, fun k hk => (ha k hk).mono hT⟩
theorem OwnT.move (h : OwnT w M n f T) (hs : w1.heap[M]? = w.heap[M]?) (hm : ∀ b, T b → b < w.heap.size → (∃ cells, w.heap[b]? = some (.cells cells 5 (0, 0))) → w1.heap[b]? = w.heap[b]?) : OwnT w1 M n f T := by
  obtain ⟨D, ⟨es, clock, hb, r⟩, ha⟩ := h
  exact ⟨D, ⟨es, clock, hs.trans hb, r⟩, fun k hk => (ha k hk).move hm⟩
theorem OwnT.below (h : OwnT w M n f T) (hb : Below w.heap.size w w1) : OwnT w1 M n f T := h.move (hb.block _ h.lt) (fun b _ hl _ => hb.block b hl)
end
def updO (f : Int → Option (List Int)) (k : Int) (bs : List Int) : Int → Option (List Int) := fun i => if i = k then some bs else f i
theorem OwnT.put {w : World} {M n : Nat} {f : Int → Option (List Int)} {T : Nat → Prop} (h : OwnT w M n f T) (hn : n < 1000000) {k : Int} (hk : In64 k) {v : Value} {bs : List Int} (hv : FrB w 0 v bs) (hl : bs.length ≤ 1000000) (hvT : ∀ b, v.ownBlock = some b → T b) :
    ∃ w', (Instr.mapUpdate 53 (.map (some M)) (.int .i64 k) v).run Try.prog w = .ok () w' ∧ OwnT w' M (n + 1) (updO f k bs) T ∧ Tch M w w' := by
  obtain ⟨D, ho, ha⟩ := h
  have hblk : MapBlk w M := by obtain ⟨es, clock, hb, _⟩ := ho; exact ⟨es, clock, hb⟩
  obtain ⟨w', hrun, ho', hg⟩ := ho.update law Try.underlying53 (by unfold maxLen; omega) (key_of hk) (show RH v = some (.held v, []) from rfl)
  have ht := Tch.grown hg
  have hne : ∀ b, b < w.heap.size → (∃ cells, w.heap[b]? = some (.cells cells 5 (0, 0))) → w'.heap[b]? = w.heap[b]? := by
    rintro b hb ⟨cells, hc⟩
    refine ht.block b hb ?_
    rintro rfl
    obtain ⟨es, clock, he⟩ := hblk
    rw [hc] at he
    simp at he
  refine ⟨w', hrun, ⟨D.put (kl k) (.held v), ho', fun i hi => ?_⟩, ht⟩
  unfold updO
  by_cases e : i = k
  · subst e
    rw [if_pos rfl]
    exact ⟨Maps.has_put_same ho.isMap (key_lit i) _, hl, v, Maps.atKey_put_same ho.isMap (key_lit i) _ _, hv.move (fun b hb => hne b (own_lt hv b hb) (own_typed hv b hb)), hvT⟩
  · rw [if_neg e]
    have hnk : kl i ≠ kl k := by unfold kl; intro hh; injection hh with _ hh; exact e hh
    have := (ha i hi).move (w1 := w') (fun b _ hb hc => hne b hb hc)
    revert this
    cases f i with
    | none => exact fun h => (Maps.has_put_other hnk _).trans h
    | some cs =>
      rintro ⟨h1, h2, u, h3, h4⟩
      exact ⟨(Maps.has_put_other hnk _).trans h1, h2, u, (Maps.atKey_put_other hnk _ _).trans h3, h4⟩
theorem OwnT.clear {w : World} {M n : Nat} {f : Int → Option (List Int)} {T : Nat → Prop} (h : OwnT w M n f T) :
    ∃ w', (∀ ty, (Builtin.clear_ #[53] ty #[.map (some M)]).run Try.prog w = .ok (.tuple #[]) w') ∧ Own w' M 0 (fun _ => none) ∧ Tch M w w' := by
  obtain ⟨D, ⟨es, clock, hb, F, _⟩, _⟩ := h
  refine ⟨setBlock w M (.map #[] clock), fun ty => ?_, ⟨.map [], ⟨#[], clock, heap_setBlock_same hb _, ⟨by simp, ⟨?_, ?_⟩, by simp⟩, Nat.le_refl _, rfl⟩, fun k _ => rfl⟩, ⟨rfl, rfl, rfl, by simp [setBlock], fun i _ hi => heap_setBlock_other hb _ hi⟩⟩
  · simp [Builtin.clear_, run_underlying Try.underlying53, MapKept.run_getObj_map hb, MapKept.run_setObj_map _ hb, Result.andThen, setBlock]
  all_goals simp
/-- A view: what it gets by, its own map. -/
structure VwT (w : World) (vp : Nat) (g : Value) (M n : Nat) (f : Int → Option (List Int)) (T : Nat → Prop) : Prop where
  get : w.cell? ⟨vp, 0, none⟩ = some g
  map : w.cell? ⟨vp, 1, none⟩ = some (.map (some M))
  own : OwnT w M n f T
abbrev Vw (w : World) (vp : Nat) (g : Value) (M n : Nat) (f : Int → Option (List Int)) : Prop := VwT w vp g M n f (fun _ => True)
section
variable {w w1 : World} {vp : Nat} {g : Value} {M n : Nat} {f : Int → Option (List Int)} {T T' : Nat → Prop}
theorem VwT.below (h : VwT w vp g M n f T) (hb : Below w.heap.size w w1) : VwT w1 vp g M n f T := ⟨Cm.below hb _ _ h.get, Cm.below hb _ _ h.map, h.own.below hb⟩
theorem VwT.drew (h : VwT w vp g M n f T) : VwT w.drew vp g M n f T := h.below (Below.refl _ _).drew
theorem VwT.mono (h : VwT w vp g M n f T) (hT : ∀ b, T b → b < w.heap.size → T' b) : VwT w vp g M n f T' := ⟨h.get, h.map, h.own.mono hT⟩
theorem VwT.with_ (h : VwT w vp g M n f T) {n' : Nat} {f' : Int → Option (List Int)} (ho : OwnT w1 M n' f' T') (ht : Tch M w w1) : VwT w1 vp g M n' f' T' := ⟨ht.cm h.own.blk _ _ h.get, ht.cm h.own.blk _ _ h.map, ho⟩
end
set_option maxRecDepth 100000 in
set_option maxHeartbeats 4000000 in
theorem Put_walkT (w : World) (vp : Nat) (g : Value) (M n : Nat) (f : Int → Option (List Int)) (T : Nat → Prop) (k : Int) (v : Value) (bs : List Int) (hV : VwT w vp g M n f T) (hn : n < 1000000) (hk : In64 k) (hv : RdB w v bs) (hl : bs.length ≤ 1000000) :
    Calls Try.prog 20 #[.pointer (some ⟨vp, 0, none⟩), .int .i64 k, v] w fun e w' => e = .returned (.tuple #[]) ∧ VwT w' vp g M (n + 1) (updO f k bs) (fun b => T b ∨ w.heap.size ≤ b) ∧ Tch M w w' := by
  have cC := Clone_walk w.drew v bs hv hl
  have hm := hV.map
  replace hV := hV.mono (T' := fun b => T b ∨ w.heap.size ≤ b) (fun b hb _ => .inl hb)
  replace hV := Lib.hid hV
  replace hv := Lib.hid hv
  replace hk := Lib.hid hk
  go_enter Try.func20, Try.ntmps20
  go_wp2_with fail
  go_region_with (go_at_call 31; refine cC.mono ?_; clear cC; rintro e w1 ⟨v1, rfl, hF, hB1⟩; have hV1 := hV.out.drew.below hB1; have hm1 := hV1.map; obtain ⟨w2, hrun, hO2, hT2⟩ := hV1.own.put hn hk.out (own_weaken hF (Nat.zero_le _)) hl (fun b hb => .inr (own_base hF b hb)); have hB1' := Lib.hid hB1; clear hB1 hF; replace hV1 := Lib.hid hV1)
  all_goals
    go_wp2_with fail
    go_end0
    have hT : Tch M w w1 := Tch.ofBelow ⟨hB1'.out.os, hB1'.out.tape, hB1'.out.output, hB1'.out.size, hB1'.out.block⟩
    exact ⟨rfl, hV1.out.with_ hO2 hT2, hT.trans hT2⟩
theorem Put_walk (w : World) (vp : Nat) (g : Value) (M n : Nat) (f : Int → Option (List Int)) (k : Int) (v : Value) (bs : List Int) (hV : Vw w vp g M n f) (hn : n < 1000000) (hk : In64 k) (hv : RdB w v bs) (hl : bs.length ≤ 1000000) :
    Calls Try.prog 20 #[.pointer (some ⟨vp, 0, none⟩), .int .i64 k, v] w fun e w' => e = .returned (.tuple #[]) ∧ Vw w' vp g M (n + 1) (updO f k bs) ∧ Tch M w w' :=
  (Put_walkT w vp g M n f _ k v bs hV hn hk hv hl).mono fun e w' ⟨h1, h2, h3⟩ => ⟨h1, h2.mono (fun _ _ _ => trivial), h3⟩
end Go.Proofs.Ythaipkfaaojppaa.Vw
