/- A source; Get, See, walked. -/
import Derived.Test.YthaipkfaaojppaaV2
import Derived.WalkLawsBesides
namespace Go.Proofs.Ythaipkfaaojppaa.Vw
open Go.RowKit Go.Proofs.YthaipkfaaojppaaW.PrintWords Go.Proofs.YthaipkfaaojppaaW.PrintLast Go.Proofs.YthaipkfaaojppaaW.PrintMore
open Go.Maps (Keyed int_keyed keyOf_int_mk)
open Go.ChangeMaps
set_option linter.unusedVariables false
def RowB (w : World) (A : Option Addr) (bl : List (List Int)) : Prop := ∀ i, i < bl.length → ∃ x v, A = some x ∧ w.cell? (x.add i) = some v ∧ RdB w v (bl.getD i [])
def RowK (w : World) (A : Option Addr) (kn : List Bool) : Prop := ∀ i, i < kn.length → ∃ x, A = some x ∧ w.cell? (x.add i) = some (.bool (kn.getD i false))
theorem RowB.cm {w w1 : World} {A : Option Addr} {bl : List (List Int)} (h : RowB w A bl) (c : Cm w w1) : RowB w1 A bl := fun i hi => by
  obtain ⟨x, v, e, h1, h2⟩ := h i hi
  exact ⟨x, v, e, c _ _ h1, h2.cm c⟩
theorem RowK.cm {w w1 : World} {A : Option Addr} {kn : List Bool} (h : RowK w A kn) (c : Cm w w1) : RowK w1 A kn := fun i hi => by
  obtain ⟨x, e, h1⟩ := h i hi
  exact ⟨x, e, c _ _ h1⟩
/-- A source at block s. -/
structure Src (w : World) (s : Nat) (bl : List (List Int)) (kn : List Bool) : Prop where
  blocks : ∃ A c, w.cell? ⟨s, 0, none⟩ = some (.slice A bl.length c) ∧ RowB w A bl
  known : ∃ A c, w.cell? ⟨s, 1, none⟩ = some (.slice A kn.length c) ∧ RowK w A kn
  len : bl.length = kn.length
  few : bl.length ≤ 300
  small : ∀ i, i < bl.length → (bl.getD i []).length ≤ 1000000
theorem Src.cm {w w1 : World} {s : Nat} {bl : List (List Int)} {kn : List Bool} (h : Src w s bl kn) (c : Cm w w1) : Src w1 s bl kn := by
  obtain ⟨A, c0, h1, h2⟩ := h.blocks
  obtain ⟨A', c0', h3, h4⟩ := h.known
  exact ⟨⟨A, c0, c _ _ h1, h2.cm c⟩, ⟨A', c0', c _ _ h3, h4.cm c⟩, h.len, h.few, h.small⟩
def getF (bl : List (List Int)) (kn : List Bool) (k : Int) : Option (List Int) := if 0 ≤ k ∧ k < bl.length ∧ kn.getD k.toNat false = true then some (bl.getD k.toNat []) else none
set_option maxRecDepth 100000 in
set_option maxHeartbeats 4000000 in
theorem Get_some (w : World) (s : Nat) (bl : List (List Int)) (kn : List Bool) (k : Int) (bs : List Int) (hS : Src w s bl kn) (h : getF bl kn k = some bs) :
    Calls Try.prog 10 #[.pointer (some ⟨s, 0, none⟩), .int .i64 k] w fun e w' => (∃ v, e = .returned (.tuple #[v, .bool true]) ∧ RdB w v bs) ∧ w' = w := by
  unfold getF at h
  split at h
  · rename_i hk
    obtain ⟨k0, k1, k2⟩ := hk
    injection h with h
    obtain ⟨i, rfl⟩ : ∃ i : Nat, k = (i : Int) := ⟨k.toNat, by omega⟩
    rw [Int.toNat_natCast] at k2 h
    have hi : i < bl.length := by omega
    have hl := hS.len
    have hi' : i < kn.length := by omega
    obtain ⟨A, c0, h1, h2⟩ := hS.blocks
    obtain ⟨A', c1, h3, h4⟩ := hS.known
    obtain ⟨x, v, rfl, hc, hv⟩ := h2 i hi
    obtain ⟨x', rfl, hc'⟩ := h4 i hi'
    rw [h] at hv
    rw [k2] at hc'
    replace hv := Lib.hid hv
    have hlt : (i : Int) < (kn.length : Int) := by omega
    clear h2 h4 hS hl h k2
    go_enter Try.func10, Try.ntmps10
    go_wp2_with fail
    go_ret2
    exact ⟨⟨_, rfl, hv.out⟩, rfl⟩
  · cases h
set_option maxRecDepth 100000 in
set_option maxHeartbeats 4000000 in
theorem Get_none (w : World) (s : Nat) (bl : List (List Int)) (kn : List Bool) (k : Int) (hS : Src w s bl kn) (h : getF bl kn k = none) :
    Calls Try.prog 10 #[.pointer (some ⟨s, 0, none⟩), .int .i64 k] w fun e w' => e = .returned (.tuple #[.slice none 0 0, .bool false]) ∧ w' = w := by
  unfold getF at h
  split at h
  · cases h
  · rename_i hk
    obtain ⟨A, c0, h1, h2⟩ := hS.blocks
    obtain ⟨A', c1, h3, h4⟩ := hS.known
    have hl := hS.len
    clear hS h
    by_cases k0 : k < 0
    · clear hk h2 h4
      go_enter Try.func10, Try.ntmps10
      go_wp2_with fail
      go_ret2
      exact ⟨rfl, rfl⟩
    by_cases k1 : (bl.length : Int) ≤ k
    · clear hk h2 h4
      go_enter Try.func10, Try.ntmps10
      go_wp2_with fail
      go_ret2
      exact ⟨rfl, rfl⟩
    obtain ⟨i, rfl⟩ : ∃ i : Nat, k = (i : Int) := ⟨k.toNat, by omega⟩
    have hi : i < bl.length := by omega
    have hi' : i < kn.length := by omega
    obtain ⟨x', rfl, hc'⟩ := h4 i hi'
    have k2 : kn.getD i false = false := by
      cases e : kn.getD i false with
      | false => rfl
      | true => exact absurd ⟨by omega, by omega, by rw [Int.toNat_natCast]; exact e⟩ hk
    rw [k2] at hc'
    have hlt : (i : Int) < (kn.length : Int) := by omega
    clear h2 h4 hk k2 hl
    go_enter Try.func10, Try.ntmps10
    go_wp2_with fail
    go_ret2
    exact ⟨rfl, rfl⟩
/-- The function value by which a view gets. -/
abbrev gv (s : Nat) : Value := .func (.func 10) #[.pointer (some ⟨s, 0, none⟩)] #[]
theorem RH_eq {v : Value} {d : DV} {ps : List MemPlace} (h : RH v = some (d, ps)) : d = .held v := by
  unfold RH at h
  injection h with h
  injection h with h _
  exact h.symm
set_option maxRecDepth 100000 in
set_option maxHeartbeats 4000000 in
theorem See_own (w : World) (vp s M n : Nat) (f : Int → Option (List Int)) (k : Int) (bs : List Int) (hV : Vw w vp (gv s) M n f) (hk : In64 k) (h : f k = some bs) :
    Calls Try.prog 22 #[.pointer (some ⟨vp, 0, none⟩), .int .i64 k] w fun e w' => (∃ v, e = .returned v ∧ FrB w' w.heap.size v bs) ∧ Below w.heap.size w w' := by
  obtain ⟨D, ho, ha⟩ := hV.own
  have hm := ha k hk
  rw [h] at hm
  obtain ⟨hh, hl, u, hu, hr, _⟩ := hm
  replace hr := FrB.reads hr
  have cC := Clone_walk w u bs hr hl
  have hg := hV.get
  have hmp := hV.map
  clear ha hV h hr
  replace hh := Lib.hid hh
  replace hu := Lib.hid hu
  replace ho := Lib.hid ho
  replace hk := Lib.hid hk
  go_enter Try.func22, Try.ntmps22
  go_wp2_with (first
    | (at_lookup; refine wpList_lookup_own_ok _ rfl _ _ 53 rfl 3 44 law Try.underlying53 RH (zero44 _) (.held (.slice none 0 0)) [] rfl M n D rfl ho.out _ _ rfl (key_of hk.out) ?_; intro v ps hv; have hv := (RH_eq hv).symm.trans hu.out; injection hv with hv; subst hv; rw [hh.out])
    | (go_at_call 31; refine cC.mono ?_; clear cC; rintro e w1 ⟨v1, rfl, hF, hB1⟩))
  go_ret
  exact ⟨⟨_, rfl, hF⟩, hB1⟩
set_option maxRecDepth 100000 in
set_option maxHeartbeats 4000000 in
theorem See_get (w : World) (vp s M n : Nat) (f : Int → Option (List Int)) (k : Int) (bl : List (List Int)) (kn : List Bool) (bs : List Int) (hV : Vw w vp (gv s) M n f) (hk : In64 k) (h : f k = none) (hS : Src w s bl kn) (hg : getF bl kn k = some bs) (hl : bs.length ≤ 1000000) :
    Calls Try.prog 22 #[.pointer (some ⟨vp, 0, none⟩), .int .i64 k] w fun e w' => (∃ v, e = .returned v ∧ FrB w' w.heap.size v bs) ∧ Below w.heap.size w w' := by
  obtain ⟨D, ho, ha⟩ := hV.own
  have hm := ha k hk
  rw [h] at hm
  have hh : Maps.has D (kl k) = false := hm
  have cG := Get_some w s bl kn k bs hS hg
  have hgc := hV.get
  have hmp := hV.map
  clear ha hV h hm hS hg
  replace hh := Lib.hid hh
  replace ho := Lib.hid ho
  replace hk := Lib.hid hk
  go_enter Try.func22, Try.ntmps22
  go_wp2_with (first
    | (at_lookup; refine wpList_lookup_own_ok _ rfl _ _ 53 rfl 3 44 law Try.underlying53 RH (zero44 _) (.held (.slice none 0 0)) [] rfl M n D rfl ho.out _ _ rfl (key_of hk.out) ?_; intro u ps hv; clear hv; rw [hh.out])
    | (go_at_call 10; refine cG.mono ?_; clear cG; rintro e w1 ⟨⟨v1, rfl, hr⟩, rfl⟩; have cC := Clone_walk _ v1 bs hr hl; clear hr)
    | (go_at_call 31; refine cC.mono ?_; clear cC; rintro e w1 ⟨v1, rfl, hF, hB1⟩))
  go_ret
  exact ⟨⟨_, rfl, hF⟩, hB1⟩
def wantedV (k : Int) : List PanicEntry := [{ v := .iface 57 (.agg #[.int .i64 k]), recovered := false }]
set_option maxRecDepth 100000 in
set_option maxHeartbeats 4000000 in
theorem See_wants (w : World) (vp s M n : Nat) (f : Int → Option (List Int)) (k : Int) (bl : List (List Int)) (kn : List Bool) (hV : Vw w vp (gv s) M n f) (hk : In64 k) (h : f k = none) (hS : Src w s bl kn) (hg : getF bl kn k = none) :
    Calls Try.prog 22 #[.pointer (some ⟨vp, 0, none⟩), .int .i64 k] w fun e w' => e = .panicked (wantedV k) ∧ w' = w := by
  obtain ⟨D, ho, ha⟩ := hV.own
  have hm := ha k hk
  rw [h] at hm
  have hh : Maps.has D (kl k) = false := hm
  have cG := Get_none w s bl kn k hS hg
  have hgc := hV.get
  have hmp := hV.map
  clear ha hV h hm hS hg
  replace hh := Lib.hid hh
  replace ho := Lib.hid ho
  replace hk := Lib.hid hk
  go_enter Try.func22, Try.ntmps22
  go_wp2_with (first
    | (at_lookup; refine wpList_lookup_own_ok _ rfl _ _ 53 rfl 3 44 law Try.underlying53 RH (zero44 _) (.held (.slice none 0 0)) [] rfl M n D rfl ho.out _ _ rfl (key_of hk.out) ?_; intro u ps hv; clear hv; rw [hh.out])
    | (go_at_call 10; refine cG.mono ?_; clear cG; rintro e w1 ⟨rfl, rfl⟩))
  first | exact ⟨rfl, rfl, rfl⟩ | exact ⟨rfl, rfl⟩ | simp [bodyPost, wantedV]
end Go.Proofs.Ythaipkfaaojppaa.Vw
