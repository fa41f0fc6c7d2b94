/- ViewOwn, walked. -/
import Derived.Test.YthaipkfaaojppaaV14
namespace Go.Proofs.Ythaipkfaaojppaa.Vw
open Go.RowKit Go.Proofs.YthaipkfaaojppaaW.PrintWords Go.Proofs.YthaipkfaaojppaaW.PrintLast Go.Proofs.YthaipkfaaojppaaW.PrintMore
set_option linter.unusedVariables false
section
variable {w W wr wr1 : World} {vp M g s n n1 R : Nat} {f f1 : Int → Option (List Int)} {bl : List (List Int)} {kn : List Bool} {ds : List DoR} {A : Option Addr} {c p : Nat}
/-- A run of the puts. -/
theorem At.own19 (h : At w wr vp M g s n f bl kn) (hp : p < w.heap.size ∧ w.cell? ⟨p, 0, none⟩ = some (.slice A ds.length c)) (hC : Scr w A ds) (hT : Tame ds) (hS : Src w s bl kn) (h0 : w.heap.size ≤ R) (hv : R ≠ vp) (hg : R ≠ g) (hb : wr.heap[R]? = some (.cells #[.bool true] 4 (0, 0))) :
    Calls Try.prog 11 #[.pointer (some ⟨vp, 0, none⟩), .func (.func 19) #[] #[.pointer (some ⟨p, 0, none⟩), .pointer (some ⟨g, 0, none⟩), .pointer (some ⟨R, 0, none⟩)]] wr fun e w' => e = .returned (.tuple #[.int .i64 0, .bool true]) ∧ w'.heap[R]? = some (.cells #[.bool true] 4 (0, 0)) ∧ At w w' vp M g s ds.length (fP ds ds.length) bl kn := by
  have hMl := h.vw.own.lt
  have hvl : vp < wr.heap.size := cell_lt h.vw.map
  have hgl : g < wr.heap.size := cell_lt h.box
  have hRl : R < wr.heap.size := (Array.getElem?_eq_some_iff.1 hb).1
  have hRM : R ≠ M := by
    rintro rfl
    obtain ⟨es, clock, he⟩ := h.vw.own.blk
    rw [hb] at he
    simp at he
  refine (Run_ok wr vp M n (gv s) f 19 _ (fun i => i = M ∨ i = R) (.inl rfl) (fun i hi => by rcases hi with rfl | rfl; exact hMl; exact hRl) h.vw (fun W w1 => OwnMid w W w1 vp M g s ds.length R (fP ds ds.length) bl kn) en19 (fun W hV hT1 => ?_)).mono ?_
  · exact (clo19 (h.tch hT1 hV) hp hC hT hS h0 hv hg ((hT1.block R hRl hRM).trans hb)).mono fun e w' ⟨q1, q2⟩ => ⟨q1, q2.tch, q2⟩
  · rintro e w' ⟨rfl, W, w1, hX, hE⟩
    have hb2 := h.bel.trans (hE.tch.below (B := w.heap.size) (fun i hi => by rcases hi with rfl | rfl; exact h.low; exact h0) h.bel.size)
    exact ⟨rfl, (hE.old R hRl).trans hX.rb, ⟨hb2, hE.vw hX.st.vw hvl hMl, hS.cm (Cm.below hb2), (World.cell?_of_block (w := w1) (hE.old g hgl)).trans hX.st.box, h.low⟩⟩
/-- Behind the run. -/
structure OwnEnd (w wr : World) (vp M g s n R : Nat) (f : Int → Option (List Int)) (bl : List (List Int)) (kn : List Bool) : Prop where
  st : At w wr vp M g s n f bl kn
  rb : wr.heap[R]? = some (.cells #[.bool true] 4 (0, 0))
theorem OwnEnd.rc (h : OwnEnd w wr vp M g s n R f bl kn) : wr.cell? ⟨R, 0, none⟩ = some (.bool true) := by simp [World.cell?, h.rb]
theorem OwnEnd.below (h : OwnEnd w wr vp M g s n R f bl kn) (b : Below wr.heap.size wr wr1) : OwnEnd w wr1 vp M g s n R f bl kn :=
  ⟨h.st.ofBelow b, (b.block R (Array.getElem?_eq_some_iff.1 h.rb).1).trans h.rb⟩
end
/-- How many of the first n puts are the first at their slot; which slots. -/
def numF (ds : List DoR) : Nat → Nat
  | 0 => 0
  | n + 1 => match ds[n]? with
    | some d => numF ds n + (if (fP ds n d.slot).isNone then 1 else 0)
    | none => numF ds n
def lF (ds : List DoR) : Nat → List Int
  | 0 => []
  | n + 1 => match ds[n]? with
    | some d => if (fP ds n d.slot).isNone then lF ds n ++ [d.slot] else lF ds n
    | none => lF ds n
theorem numF_succ {ds : List DoR} {n : Nat} {d : DoR} (h : ds[n]? = some d) : numF ds (n + 1) = numF ds n + (if (fP ds n d.slot).isNone then 1 else 0) := by
  show (match ds[n]? with | some d => numF ds n + (if (fP ds n d.slot).isNone then 1 else 0) | none => numF ds n) = _
  rw [h]
theorem lF_facts (ds : List DoR) : ∀ n, (lF ds n).length = numF ds n ∧ (lF ds n).Nodup ∧ ∀ x, x ∈ lF ds n ↔ fP ds n x ≠ none
  | 0 => ⟨rfl, List.nodup_nil, fun x => by simp [lF, fP]⟩
  | n + 1 => by
    obtain ⟨h1, h2, h3⟩ := lF_facts ds n
    cases hd : ds[n]? with
    | none =>
      have e1 : numF ds (n + 1) = numF ds n := by
        show (match ds[n]? with | some d => numF ds n + (if (fP ds n d.slot).isNone then 1 else 0) | none => numF ds n) = _
        rw [hd]
      have e2 : lF ds (n + 1) = lF ds n := by
        show (match ds[n]? with | some d => if (fP ds n d.slot).isNone then lF ds n ++ [d.slot] else lF ds n | none => lF ds n) = _
        rw [hd]
      have e3 : fP ds (n + 1) = fP ds n := by
        show (match ds[n]? with | some d => updO (fP ds n) d.slot d.bs | none => fP ds n) = _
        rw [hd]
      rw [e1, e2, e3]
      exact ⟨h1, h2, h3⟩
    | some d =>
      have e2 : lF ds (n + 1) = if (fP ds n d.slot).isNone then lF ds n ++ [d.slot] else lF ds n := by
        show (match ds[n]? with | some d => if (fP ds n d.slot).isNone then lF ds n ++ [d.slot] else lF ds n | none => lF ds n) = _
        rw [hd]
      rw [numF_succ hd, e2, fP_succ hd]
      have h4 := h3 d.slot
      cases hf : fP ds n d.slot with
      | none =>
        rw [hf] at h4
        have hn : d.slot ∉ lF ds n := by simpa using h4
        simp only [Option.isNone_none, if_true]
        refine ⟨by simp [h1], ?_, fun x => ?_⟩
        · rw [List.nodup_append]
          refine ⟨h2, by simp, fun a ha b hb e => ?_⟩
          simp at hb
          exact hn (by rw [← hb, ← e]; exact ha)
        · rw [List.mem_append, h3 x]
          unfold updO
          by_cases e : x = d.slot
          · simp [e]
          · simp [e]
      | some b =>
        simp only [Option.isNone_some, Bool.false_eq_true, if_false, Nat.add_zero]
        refine ⟨h1, h2, fun x => ?_⟩
        rw [h3 x]
        unfold updO
        by_cases e : x = d.slot
        · subst e
          simp [hf]
        · simp [e]
theorem keys_num {ds : List DoR} {n : Nat} {ks : List Int} (h : KeysOf (fP ds n) ks) (hin : ∀ x, fP ds n x ≠ none → In64 x) : ks.length = numF ds n := by
  obtain ⟨h1, h2, h3⟩ := lF_facts ds n
  have hnd : ks.Nodup := h.sorted.imp (fun {a b} hh => by omega)
  rw [← h1]
  refine List.Perm.length_eq ((List.perm_ext_iff_of_nodup hnd h2).2 fun x => ?_)
  rw [h3 x]
  constructor
  · intro hx
    exact (h.mem x (h.in64 x hx)).1 hx
  · intro hx
    exact (h.mem x (hin x hx)).2 hx
theorem fP_in {ds : List DoR} (hin : ∀ d ∈ ds, In64 d.slot) : ∀ n x, fP ds n x ≠ none → In64 x
  | 0, x, h => absurd rfl h
  | n + 1, x, h => by
    cases hd : ds[n]? with
    | none =>
      have e3 : fP ds (n + 1) = fP ds n := by
        show (match ds[n]? with | some d => updO (fP ds n) d.slot d.bs | none => fP ds n) = _
        rw [hd]
      rw [e3] at h
      exact fP_in hin n x h
    | some d =>
      rw [fP_succ hd] at h
      unfold updO at h
      by_cases e : x = d.slot
      · rw [e]
        exact hin d (List.mem_of_getElem? hd)
      · rw [if_neg e] at h
        exact fP_in hin n x h
theorem numF_le (ds : List DoR) : ∀ n, numF ds n ≤ n
  | 0 => Nat.le_refl _
  | n + 1 => by
    have ih := numF_le ds n
    cases hd : ds[n]? with
    | none =>
      have e1 : numF ds (n + 1) = numF ds n := by
        show (match ds[n]? with | some d => numF ds n + (if (fP ds n d.slot).isNone then 1 else 0) | none => numF ds n) = _
        rw [hd]
      omega
    | some d =>
      rw [numF_succ hd]
      split <;> omega
end Go.Proofs.Ythaipkfaaojppaa.Vw
