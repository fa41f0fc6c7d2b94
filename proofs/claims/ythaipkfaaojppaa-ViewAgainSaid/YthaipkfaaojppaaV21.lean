/- ViewAgain: what is plain of it; a run over a source of one's own; a row of Booleans of one's own. -/
import Derived.Test.YthaipkfaaojppaaV20
namespace Go.Proofs.Ythaipkfaaojppaa.Vw
open Go.RowKit Go.Proofs.YthaipkfaaojppaaW.PrintWords Go.Proofs.YthaipkfaaojppaaW.PrintLast Go.Proofs.YthaipkfaaojppaaW.PrintMore
set_option linter.unusedVariables false
theorem seeF_mono {s1 s2 f : Int → Option (List Int)} {k : Int} {b : List Int} (h : seeF s1 f k = some b) (hs : ∀ k b, s1 k = some b → s2 k = some b) : seeF s2 f k = some b := by
  unfold seeF at h ⊢
  cases hf : f k with
  | some c => rw [hf] at h; exact h
  | none => rw [hf] at h; exact hs k b h
theorem play_mono {s1 s2 : Int → Option (List Int)} (hs : ∀ k b, s1 k = some b → s2 k = some b) {f' : Int → Option (List Int)} {seen : List (List Int)} : ∀ (ds : List DoR) (f : Int → Option (List Int)) (acc : List (List Int)), playF s1 ds f acc = .done f' seen → playF s2 ds f acc = .done f' seen
  | [], f, acc, h => h
  | d :: ds, f, acc, h => by
    unfold playF at h ⊢
    by_cases hp : d.put = true
    · rw [if_pos hp] at h ⊢
      exact play_mono hs ds _ _ h
    · rw [if_neg hp] at h ⊢
      cases hb : seeF s1 f d.slot with
      | none => rw [hb] at h; cases h
      | some b =>
        rw [hb] at h
        rw [seeF_mono hb hs]
        exact play_mono hs ds _ _ h
theorem play_wants {s1 : Int → Option (List Int)} {k : Int} {f' : Int → Option (List Int)} : ∀ (ds : List DoR) (f : Int → Option (List Int)) (acc : List (List Int)), playF s1 ds f acc = .wants k f' → (∃ d ∈ ds, d.slot = k) ∧ s1 k = none
  | [], f, acc, h => by cases h
  | d :: ds, f, acc, h => by
    unfold playF at h
    by_cases hp : d.put = true
    · rw [if_pos hp] at h
      obtain ⟨⟨e, he, q⟩, q2⟩ := play_wants ds _ _ h
      exact ⟨⟨e, List.mem_cons_of_mem _ he, q⟩, q2⟩
    · rw [if_neg hp] at h
      cases hb : seeF s1 f d.slot with
      | some b =>
        rw [hb] at h
        obtain ⟨⟨e, he, q⟩, q2⟩ := play_wants ds _ _ h
        exact ⟨⟨e, List.mem_cons_of_mem _ he, q⟩, q2⟩
      | none =>
        rw [hb] at h
        injection h with h1 _
        subst h1
        exact ⟨⟨d, List.mem_cons_self .., rfl⟩, (seeF_none hb).2⟩
theorem play_done {s1 : Int → Option (List Int)} {ds : List DoR} (h : ∀ d ∈ ds, s1 d.slot ≠ none) (f : Int → Option (List Int)) (acc : List (List Int)) : ∃ f' seen, playF s1 ds f acc = .done f' seen := by
  cases hr : playF s1 ds f acc with
  | done f' seen => exact ⟨f', seen, rfl⟩
  | wants k f' =>
    obtain ⟨⟨d, hd, e⟩, h2⟩ := play_wants ds f acc hr
    exact absurd (by rw [e]; exact h2) (h d hd)
theorem getF_all {bl : List (List Int)} {kn : List Bool} {k : Int} {b : List Int} (h : getF bl kn k = some b) : getF bl (List.replicate bl.length true) k = some b := by
  unfold getF at h ⊢
  split at h
  · rename_i hk
    rw [if_pos ⟨hk.1, hk.2.1, by rw [List.getD_eq_getElem?_getD, List.getElem?_replicate, if_pos (by omega)]; rfl⟩]
    exact h
  · cases h
theorem getF_known {bl : List (List Int)} {k : Int} (h0 : 0 ≤ k) (h1 : k < bl.length) : getF bl (List.replicate bl.length true) k ≠ none := by
  unfold getF
  rw [if_pos ⟨h0, h1, by rw [List.getD_eq_getElem?_getD, List.getElem?_replicate, if_pos (by omega)]; rfl⟩]
  simp
theorem getF_unknown {bl : List (List Int)} {kn : List Bool} {k : Int} (h : getF bl kn k = none) (h0 : 0 ≤ k) (h1 : k < bl.length) : kn.getD k.toNat false = false := by
  unfold getF at h
  split at h
  · cases h
  · rename_i hk
    cases e : kn.getD k.toNat false with
    | false => rfl
    | true => exact absurd ⟨h0, h1, e⟩ hk
theorem count_set {kn : List Bool} {i : Nat} (hi : i < kn.length) (h : kn.getD i false = false) : (kn.set i true).count false + 1 = kn.count false := by
  have he : kn[i] = false := by
    rw [List.getD_eq_getElem?_getD, List.getElem?_eq_getElem hi] at h
    simpa using h
  have hp : 0 < kn.count false := List.count_pos_iff.2 (by rw [← he]; exact List.getElem_mem hi)
  rw [List.count_set hi, he]
  simp
  omega
/-- A row of Booleans of one's own. -/
abbrev KB (w : World) (base : Nat) (v : Value) (kn : List Bool) : Prop := Kd.bool.R 4 w base (fun _ => True) v kn
theorem KB.row {w : World} {base : Nat} {A : Option Addr} {n c : Nat} {kn : List Bool} (h : KB w base (.slice A n c) kn) : RowK w A kn := fun i hi => by
  obtain ⟨hn, _, hC⟩ := Kd.R_reads' h
  obtain ⟨ad, cs, e, _, hK, hc⟩ := Kd.C_get hC false (i : Int) (by omega) (by omega)
  rw [Int.toNat_natCast] at hK hc
  obtain rfl : cs = [.bool (kn.getD i false)] := hK
  have := hc 0 _ rfl
  rw [show i * Kd.bool.sz + 0 = i by simp [Kd.bool, Kd.scalar]] at this
  exact ⟨ad, e, this⟩
theorem KB.empty {w : World} {base b : Nat} (h : w.heap[b]? = some (.cells #[] 4 (0, 0))) (hb : base ≤ b) : KB w base (.slice (some ⟨b, 0, none⟩) 0 0) [] :=
  Kd.R_of_own ⟨by simp [encs], .inr ⟨b, 0, #[], rfl, hb, h, Nat.le_refl _, by simp, by simp, by simp [encs]⟩⟩ (fun _ _ => trivial)
theorem RowK.reads {w : World} {A : Option Addr} {kn : List Bool} (h : RowK w A kn) (hl : kn.length ≤ 9223372036854775807) : ReadsRow (fun (x : Bool) (cs : List Value) => cs = [.bool x]) 1 w A kn.length kn := by
  refine ⟨rfl, hl, fun hp => ?_⟩
  obtain ⟨x, e, _⟩ := h 0 hp
  refine ⟨x, e, fun j p hj => ⟨[.bool p], rfl, rfl, fun i u hu => ?_⟩⟩
  have hjl := (List.getElem?_eq_some_iff.1 hj).1
  obtain ⟨y, e2, hc⟩ := h j hjl
  rw [e] at e2
  injection e2 with e2
  subst e2
  rcases i with _ | i
  · simp at hu
    subst hu
    rw [List.getD_eq_getElem?_getD, hj] at hc
    simpa using hc
  · simp at hu
theorem info4 : (Try.prog.info? 4).map (fun i => (i.zero, i.size, i.bytes)) = some (some (.bool false), 1, 1) := by kernel_rfl
theorem grown_cell {W w1 : World} {row : Option Nat} (hg : W.grownBy w1 row) {p : Addr} {v : Value} (hc : W.cell? p = some v) (hne : some p.block ≠ row) : w1.cell? p = some v :=
  (World.cell?_of_block (w := W) (hg.block p.block (cell_lt hc) hne)).trans hc
theorem grown_frozen {W w1 : World} {row : Option Nat} (hg : W.grownBy w1 row) {p : Addr} {v : Value} (hc : W.cell? p = some v) (hz : W.frozen? p = false) (hne : some p.block ≠ row) : w1.frozen? p = false :=
  (World.frozen?_of_block (w := W) (hg.block p.block (cell_lt hc) hne)).trans hz
theorem TchS.cmq {M q : Nat} {wr w w' : World} (h : TchS (fun i => i = M ∨ i = q) w w') (hm : MapBlk w M) (hb : Below wr.heap.size wr w) (hq : wr.heap.size ≤ q) : Cm wr w' := fun p v hc => by
  have hlt := cell_lt hc
  exact h.cell hm (Cm.below hb _ _ hc) (by omega)
section
variable {w W wr wr1 : World} {vp M g s n n1 q : Nat} {f f1 : Int → Option (List Int)} {bl : List (List Int)} {kn : List Bool} {u : Value}
/-- A run of a closure that plays and keeps, over a source that is the call's own. -/
theorem At.seen2 (h : At w wr vp M g s n f bl kn) (G : Nat) (cap : Array Value) (r : Res) (hen : ∀ (args : Array Value) (w : World), (callFunc G args).run Try.prog w = .ok (.enter G args) w)
    (hc : ∀ W, At w W vp M g s 0 (fun _ => none) bl kn → Tch M wr W → Calls Try.prog G cap W (KeepPost W vp s M q r)) (hb : wr.heap[q]? = some (.cells #[u] 22 (0, 0))) (hq0 : w.heap.size ≤ q) (hqv : q ≠ vp) (hqg : q ≠ g) (hS : ∀ w', TchS (fun i => i = M ∨ i = q) wr w' → Src w' s bl kn) :
    Calls Try.prog 11 #[.pointer (some ⟨vp, 0, none⟩), .func (.func G) #[] cap] wr (SeenPost w wr vp M g s q bl kn r) := by
  cases r with
  | wants k f' =>
    refine (Run_wants wr vp M n (gv s) f G cap (fun k => k = M) rfl (fun k hk => by rw [hk]; exact h.vw.own.lt) h.vw (fun _ _ => True) k hen (fun W hV hT => ?_)).mono ?_
    · exact (hc W (h.tch hT hV) hT).mono fun e w' ⟨h1, ⟨n', h2⟩, h3⟩ => ⟨h1, TchS.of h3 rfl, ⟨n', f', h2⟩, trivial⟩
    · rintro e w' ⟨rfl, hV, W, w1, _, hE⟩
      exact ⟨rfl, h.tch hE.tch.tch hV, TchS.of hE.tch.tch (.inl rfl)⟩
  | done f' seen =>
    have hMl := h.vw.own.lt
    have hvl : vp < wr.heap.size := cell_lt h.vw.map
    have hgl : g < wr.heap.size := cell_lt h.box
    have hql : q < wr.heap.size := (Array.getElem?_eq_some_iff.1 hb).1
    have hqM : q ≠ M := by
      rintro rfl
      obtain ⟨es, clock, he⟩ := h.vw.own.blk
      rw [hb] at he
      simp at he
    have hblk := h.vw.own.blk
    refine (Run_ok wr vp M n (gv s) f G cap (fun i => i = M ∨ i = q) (.inl rfl) (fun i hi => by rcases hi with rfl | rfl; exact hMl; exact hql) h.vw (fun W w1 => (∃ n', n' ≤ 200 ∧ Vw w1 vp (gv s) M n' f') ∧ w1.cell? ⟨g, 0, none⟩ = some (.pointer (some ⟨vp, 0, none⟩)) ∧ ∃ v, w1.cell? ⟨q, 0, none⟩ = some v ∧ ∃ ok, kB.R 44 w1 w.heap.size ok v seen) hen (fun W hV hT => ?_)).mono ?_
    · have hA := h.tch hT hV
      have hsW := hT.size
      have hbW := hV.own.blk
      refine (hc W hA hT).mono ?_
      rintro e w' ⟨rfl, v, w1, hR, ⟨n', hn', hV1⟩, hT1, rfl⟩
      have hq1 : w1.heap[q]? = some (.cells #[u] 22 (0, 0)) := (hT1.block q (by omega) hqM).trans ((hT.block q hql hqM).trans hb)
      have keep : ∀ i, i ≠ q → (w1.setCell ⟨q, 0, none⟩ v).heap[i]? = w1.heap[i]? := fun i hi => Below.heap_setCell _ _ _ _ hi
      refine ⟨rfl, ⟨hT1.os, hT1.tape, hT1.output, ?_, fun i hi hn => (keep i (fun e => hn (.inr e))).trans (hT1.block i hi (fun e => hn (.inl e)))⟩, ⟨n', hn', hV1.setBox hq1 (by decide) hqv hqM v⟩, ?_, v, World.cell?_setCell_same' _ _ _ (by rw [cell_blk hq1]; rfl), _, Kd.R_lower (R_typ hR (fun b cells e he hx => keep b (fun hbq => ?_))) (Nat.le_trans h.bel.size hsW)⟩
      · simp only [World.setCell, Array.size_modify]
        exact hT1.size
      · exact (World.cell?_of_block (w := w1) (keep g hqg.symm)).trans (hT1.cm hbW _ _ hA.box)
      · rw [hbq, hq1] at hx
        injection hx with hx
        injection hx with _ hx
        rw [← hx] at he
        revert he
        decide
    · rintro e w' ⟨rfl, W, w1, ⟨⟨n', hn', hV⟩, hbx, v, hv, ok, hR⟩, hE⟩
      have hb2 := h.bel.trans (hE.tch.below (B := w.heap.size) (fun i hi => by rcases hi with rfl | rfl; exact h.low; exact hq0) h.bel.size)
      exact ⟨rfl, ⟨v, (World.cell?_of_block (w := w1) (hE.old q hql)).trans hv, ok, R_typ hR (fun b cells e he hx => hE.typ b cells e _ (by rintro rfl; revert he; decide) (by rintro rfl; revert he; decide) hx)⟩, ⟨n', hn', hb2, hE.vw hV hvl hMl, hS w' hE.tch, (World.cell?_of_block (w := w1) (hE.old g hgl)).trans hbx, h.low⟩, hE.tch⟩
end
end Go.Proofs.Ythaipkfaaojppaa.Vw
