/- A new view; a clone as a row of the call's own. -/
import Derived.Test.YthaipkfaaojppaaV4
namespace Go.Proofs.Ythaipkfaaojppaa.Vw
open Go.RowKit Go.Proofs.YthaipkfaaojppaaW.PrintWords Go.Proofs.YthaipkfaaojppaaW.PrintLast Go.Proofs.YthaipkfaaojppaaW.PrintMore
open Go.ChangeMaps
set_option linter.unusedVariables false
theorem Own.made (w : World) : Own (w.alloc (.map #[] 0)) w.heap.size 0 (fun _ => none) := ⟨.map [], World.ownsMap_made w _ _ _, fun _ _ => rfl⟩
set_option maxRecDepth 100000 in
set_option maxHeartbeats 4000000 in
theorem New_walk (w : World) (s : Nat) :
    Calls Try.prog 9 #[gv s] w fun e w' => e = .returned (.pointer (some ⟨w.heap.size + 1, 0, none⟩)) ∧ Vw w' (w.heap.size + 1) (gv s) w.heap.size 0 (fun _ => none) ∧ Below w.heap.size w w' := by
  have hmm := @run_makeMap Try.prog
  go_enter Try.func9, Try.ntmps9
  go_wp2_with fail
  go_ret
  refine ⟨rfl, ⟨by simp, by simp, (Own.made w).below ((Below.refl _ _).alloc (Nat.le_refl _) _)⟩, ((Below.refl _ w).alloc (Nat.le_refl _) _).alloc (by simp) _⟩
theorem reps_nums (k : IntKind) (bs : List Int) : Reps (fun (x : Int) (cs : List Value) => cs = [.int k x]) 1 bs (nums k bs) := by
  refine ⟨by simp [nums], fun j p hj => ?_⟩
  have hjl := (List.getElem?_eq_some_iff.1 hj).1
  have hn : j < (nums k bs).length := by simpa [nums] using hjl
  rw [Nat.mul_one, List.drop_eq_getElem_cons hn, List.take_succ_cons, List.take_zero]
  have : (nums k bs)[j] = .int k p := by
    have h2 := (List.getElem?_eq_some_iff.1 hj).2
    simp [nums, h2]
  rw [this]
theorem FrB.kdR {w : World} {base : Nat} {v : Value} {bs : List Int} (h : FrB w base v bs) (B : Nat) (hB : B ≤ base) : (Kd.int .u8).R 5 w B (fun k => base ≤ k) v bs := by
  refine ⟨fun k hk => own_base h k hk, nums .u8 bs, own_weaken h hB, reps_nums .u8 bs⟩
end Go.Proofs.Ythaipkfaaojppaa.Vw
