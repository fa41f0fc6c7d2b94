/- The law SpaceNone answers true for every block number. No condition but the table as the library lays it. -/
import Derived.Test.YtnddahkkdcgpaaaDoorRows
import Derived.Test.YtnddahkkdcgpaaaDoorSp10
import Derived.WalkKit
import Derived.ProofKit
import Derived.OpenShut
import Derived.ShutString
import Derived.ChangeOld
import Derived.ChangeVars
import Derived.JoinedOf
import Derived.Below
import Derived.SizedLaws
import Derived.Carry
import Derived.LaidLaws
import Derived.Test.YtnddahkkdcgpaaaDoorTie
import Derived.Test.YtnddahkkdcgpaaaDoorCards
import Derived.SevenTiedAt
namespace Go.Proofs.YtnddahkkdcgpaaaDoor.spaceNone
open Go.ChangeShapes Go.WideShapes Go.ChangeAt Go.RowKit
set_option linter.unusedVariables false
theorem own : ownKnob Tryd.prog.godebug = none := by kernel_rfl
theorem gN : Tryd.prog.globalNamed "math/bits.deBruijn64tab" = some 0 := by kernel_rfl
theorem gT : (Tryd.prog.globals[0]?).map (·.type) = some 61 := by kernel_rfl
theorem c5 : Tryd.prog.cellsOf 5 = 1 := by kernel_rfl
theorem c61 : Tryd.prog.cellsOf 61 = 64 := by kernel_rfl
abbrev L64 : List (String × DataW Unit) := [("math/bits.deBruijn64tab", Rows.laid_math_bits_deBruijn64tab)]
theorem table_eq : (Rows.laid_math_bits_deBruijn64tab : DataW Unit) = .agg (Lib.deBruijn64tab.map (fun (n : Nat) => (.lit (.int .u8 (n : Int)) : DataW Unit))) := rfl
theorem int_of_trod {H : Type} {enc : TypeId × Value → H} {P : Program} {w : World} {base : Nat} {sp : Nat → Bool} {held : Bool} {fuel : Nat} {t : TypeId} {k : IntKind} {c : Value} {y : DataW H × List MemPlace}
    (ht : P.underlying t = some (.int k)) (h : DataW.trod enc P w base sp held fuel t [c] = some y) : ∃ n, c = .int k n ∧ y = (.lit (.int k n), []) := by
  cases fuel with
  | zero => simp [DataW.trod] at h
  | succ fuel =>
    cases c <;> simp [DataW.trod, ht] at h
    rename_i k' n
    obtain ⟨⟨rfl, _⟩, rfl⟩ := h
    exact ⟨n, rfl, rfl⟩
theorem tab_of_laid {W : World} (h : laidMet Tryd.prog L64 W) : TabAt 0 Lib.deBruijn64tab W := by
  obtain ⟨ps, ⟨g, t, cs, fuel, p, q, hg, ht, hvar, hd, _, _⟩, _⟩ := h
  obtain rfl := Option.some.inj (gN.symm.trans hg)
  obtain rfl := Option.some.inj (gT.symm.trans ht)
  obtain ⟨xs, m, rfl, hx, hl, hn, hi⟩ := DataW.trod_array Tryd.underlying61 hd
  rw [c61] at hl
  have hx1 := (Prod.mk.inj hx).1
  rw [table_eq] at hx1
  have hx2 := DataW.agg.inj hx1
  intro j hj
  have hj : j < 64 := hj
  have hij := hi j hj
  rw [c5, Nat.mul_one] at hij
  have hcl : j < cs.toList.length := by omega
  rw [List.drop_eq_getElem_cons hcl, List.take_succ_cons, List.take_zero] at hij
  have hxj : xs[j]? = some xs[j] := List.getElem?_eq_getElem (by omega)
  rw [hxj] at hij
  obtain ⟨n, hc, hy⟩ := int_of_trod Tryd.underlying5 hij
  have e := congrArg (fun l => l[j]?) hx2
  simp only [List.getElem?_map, hxj, Option.map_some, hy] at e
  have hd : Lib.deBruijn64tab[j]? = some (Lib.deBruijn64tab.getD j 0) := by
    rw [List.getD_eq_getElem?_getD, List.getElem?_eq_getElem (by exact hj)]; rfl
  rw [hd] at e
  simp at e
  have hcell := World.var?_cell hg hvar j
  rw [hcell, ← Array.getElem?_toList, List.getElem?_eq_getElem hcl, hc, ← e, List.getD_eq_getElem?_getD]
noncomputable def laidWorld (os : Os) : World :=
  let w0 := World.holding Tryd.prog os ⟨#[], #[], []⟩
  { w0 with heap := w0.heap.modify 0 fun
      | .cells _ t frozen => .cells (Lib.deBruijn64tab.map (fun (n : Nat) => Value.int .u8 (n : Int))).toArray t frozen
      | o => o }
theorem laid_met (os : Os) (args : Array Value) : laidMet Tryd.prog L64 ((laidWorld os).forCall (fun _ _ => 0) ⟨#[], args, []⟩).memory :=
  laidMet_of_run (ps := (List.range 64).map (fun j => .cell 0 j)) 8 (by kernel_rfl) (by kernel_rfl) (by kernel_rfl)
set_option maxHeartbeats 4000000 in
set_option maxRecDepth 100000 in
theorem lifted (os : Os) (started : os.Started) (H : Type) (enc : TypeId × Value → H) :
    ReturnsInHanded {} Tryd.checked os 6 .any (fun w args => (Rows.spaceNoneSpec.pre enc Tryd.prog Tryd.f6 Rows.spaceNoneRow.domain false w args ∧ laidMet Tryd.prog L64 w) ∧ sizedMet enc Tryd.prog Tryd.f6 (OpenSpec.ofChange Rows.spaceNoneSpec) false w args)
      (Rows.spaceNoneSpec.post enc Tryd.prog Tryd.f6 false true false false) := by
  refine returnsInHanded_of_change_and (C := Tryd.checked) (X := fun w _ => laidMet Tryd.prog L64 w) (fun _ _ _ hh h => h.of_heap hh) own started (by kernel_rfl) Tryd.func6
    (ChangeSpec.witness_at (enc := enc) (C := Tryd.checked) (os := os) (X := fun w _ => laidMet Tryd.prog L64 w) false (laidWorld os) #[.int .i64 0] 8 rfl (by kernel_rfl) (by kernel_rfl) (by kernel_rfl) (by kernel_rfl) (by kernel_rfl) (laid_met os _)) ?_
  intro W base args ds gs before hval0 hW hcnd0 _ hL _
  have hval : ∀ (j : Nat) t v, Tryd.f6.params[j]? = some t → args[j]? = some v → Value.okWide Tryd.prog W .any base t v := hval0
  have hW' := hW
  obtain ⟨p, q, hA0, hV, rfl, hfz, hnd⟩ := hW
  have hA : DataW.TrodAll enc Tryd.prog W 0 (fun _ => true) true Tryd.f6.params.toList args.toList ds p := hA0
  rw [Tryd.params6] at hA hval
  obtain ⟨v0, d0, rfl, rfl, h0⟩ := trodAll_one hA
  obtain ⟨rfl, rfl⟩ := trodVars_none hV
  obtain ⟨a, rfl, rfl, rfl, wa⟩ := open_int Tryd.underlying3 (hval 0 3 v0 rfl rfl) h0
  clear hA0 hval0
  refine (Sp.SpaceNone_walk W a (tab_of_laid hL)).mono fun e W' ⟨he, bel⟩ => ?_
  subst he
  exact ⟨_, rfl, _, _, _, [], [], [], hW', trodAll_mk1 (shut_bool Tryd.underlying4 _), trodAll_mk1 (shut_int Tryd.underlying3 wa), rfl, bel.frame _, fun h => by cases h⟩
theorem over : Rows.spaceNoneRow.holds Tryd.pinned (OpenSpec.ofChange Rows.spaceNoneSpec) :=
  OpenClaim.holds_of_wide 6 Tryd.f6 rfl rfl rfl rfl rfl rfl rfl ⟨rfl, rfl, rfl, rfl, rfl⟩ rfl rfl rfl rfl rfl (by kernel_rfl) Tryd.func6 (by kernel_rfl)
    (of_decide_eq_true (by kernel_rfl)) (by unfold Func.isWrapper; first | (rw [if_pos (by decide +kernel)]; kernel_rfl) | (rw [if_neg (by decide +kernel)]; exact ⟨rfl, rfl⟩))
    (fun os started H enc _ => lifted os started H enc)
theorem card : Rows.SpaceNoneCardSaid :=
  Claim7.holds_tied_plain_at .later [] [.data] true (true, "2da13f806ce34e4d528868289552b439872fcbe3aecfb6e66b946acfed98abc0") false
    over (fun _ h => by cases h) (by kernel_rfl) (fun _ h => by cases h) spaceNone_row_tie rfl ⟨rfl, rfl⟩ (by kernel_rfl) rfl
    (fun f fn hf hfn => by
      obtain rfl : f = 6 := Option.some.inj ((show Tryd.prog.funcNamed "oubliette/oubliettelaw08.SpaceNone" = some 6 by kernel_rfl).symm.trans hf) |>.symm
      obtain rfl : fn = Tryd.f6 := (Option.some.inj (Tryd.func6.symm.trans hfn)).symm
      exact ⟨by kernel_rfl, fun j t ht => by
        rw [Tryd.params6] at ht
        have h3 : t = 3 := by
          rcases j with _ | j
          · simpa using ht.symm
          · simp at ht
        subst h3
        exact (show Tryd.prog.wantsStandIn 3 = false by kernel_rfl)⟩)
    (by kernel_rfl)
end Go.Proofs.YtnddahkkdcgpaaaDoor.spaceNone
namespace Go.Proofs.YtnddahkkdcgpaaaDoor
/-- The card, under a short name, for the claim. -/
theorem spaceNone_holds : Rows.SpaceNoneCardSaid := spaceNone.card
#print axioms spaceNone_holds
end Go.Proofs.YtnddahkkdcgpaaaDoor
