/- ViewRuns, walked. -/
import Derived.Test.YthaipkfaaojppaaV18
import Derived.Test.YthaipkfaaojppaaV16
namespace Go.Proofs.Ythaipkfaaojppaa.Vw
open Go.RowKit Go.Proofs.YthaipkfaaojppaaW.PrintWords Go.Proofs.YthaipkfaaojppaaW.PrintLast Go.Proofs.YthaipkfaaojppaaW.PrintMore
open Go.Proofs.Ythaipkfaaojppaa.PViewRuns (S59 k59 k59_open oublietteref12_Puts.calls oubliettelaw12_lists.calls)
set_option linter.unusedVariables false
/-- A row of puts is read; a row of rows of bytes is. -/
def R59 (w : World) (v : Value) (l : List S59) : Prop := ∃ A c, v = .slice A l.length c ∧ l.length ≤ c ∧ Kd.C k59 w A l.length l
def R44 (w : World) (v : Value) (l : List (List Int)) : Prop := ∃ A c, v = .slice A l.length c ∧ l.length ≤ c ∧ Kd.C kB w A l.length l
theorem R59.below {w w1 : World} {v : Value} {l : List S59} (h : R59 w v l) (hb : Below w.heap.size w w1) : R59 w1 v l := by
  obtain ⟨A, c, e, h1, h2⟩ := h
  exact ⟨A, c, e, h1, Kd.C_below h2 hb⟩
theorem R44.below {w w1 : World} {v : Value} {l : List (List Int)} (h : R44 w v l) (hb : Below w.heap.size w w1) : R44 w1 v l := by
  obtain ⟨A, c, e, h1, h2⟩ := h
  exact ⟨A, c, e, h1, Kd.C_below h2 hb⟩
theorem R59.nil (w : World) : R59 w (.slice none 0 0) [] := ⟨none, 0, rfl, Nat.le_refl _, Kd.C_nil _ _⟩
theorem Puts_same (w : World) (v u : Value) (l : List S59) (hv : R59 w v l) (hu : R59 w u l) (hl : l.length ≤ 1000) : Calls Try.prog 15 #[v, u] w fun e w' => e = .returned (.bool true) ∧ Drawn0 w w' := by
  obtain ⟨A, c, rfl, h1, h2⟩ := hv
  obtain ⟨A', c', rfl, h3, h4⟩ := hu
  have hB : ∀ p ∈ l, p.f1.length ≤ 9223372036854775807 := fun p hp => by
    obtain ⟨i, hi, he⟩ := List.getElem_of_mem hp
    obtain ⟨ad, cs, _, _, hK, _⟩ := Kd.C_get h2 (⟨0, []⟩ : S59) (i : Int) (by omega) (by omega)
    rw [Int.toNat_natCast, List.getD_eq_getElem?_getD, List.getElem?_eq_getElem hi, Option.getD_some, he] at hK
    obtain ⟨A1, c1, _, _, hC⟩ := k59_open hK
    exact Kd.C_max hC
  exact oublietteref12_Puts.calls _ A c l A' c' l true w h2 h1 h4 h3 (puts_f hB (Nat.le_refl _) hl)
theorem Lists_same (w : World) (v u : Value) (l : List (List Int)) (hv : R44 w v l) (hu : R44 w u l) (hl : l.length ≤ 1000) : Calls Try.prog 17 #[v, u] w fun e w' => e = .returned (.bool true) ∧ Drawn0 w w' := by
  obtain ⟨A, c, rfl, h1, h2⟩ := hv
  obtain ⟨A', c', rfl, h3, h4⟩ := hu
  have hB : ∀ p ∈ l, p.length ≤ 9223372036854775807 := fun p hp => by
    obtain ⟨i, hi, he⟩ := List.getElem_of_mem hp
    obtain ⟨ad, cs, _, _, hK, _⟩ := Kd.C_get h2 ([] : List Int) (i : Int) (by omega) (by omega)
    rw [Int.toNat_natCast, List.getD_eq_getElem?_getD, List.getElem?_eq_getElem hi, Option.getD_some, he] at hK
    obtain ⟨A1, c1, _, _, hC⟩ := hK
    exact Kd.C_max hC
  exact oubliettelaw12_lists.calls _ A c l A' c' l true w h2 h1 h4 h3 (lists_f hB (Nat.le_refl _) hl)
theorem TchS.cell {M q : Nat} {w w' : World} (h : TchS (fun i => i = M ∨ i = q) w w') (hm : MapBlk w M) {p : Addr} {v : Value} (hc : w.cell? p = some v) (hq : p.block ≠ q) : w'.cell? p = some v := by
  have hlt := cell_lt hc
  have hne : p.block ≠ M := by
    obtain ⟨es, clock, hb⟩ := hm
    intro hh
    unfold World.cell? at hc
    rw [hh, hb] at hc
    simp at hc
  exact (World.cell?_of_block (w := w) (h.block _ hlt (fun e => by rcases e with e | e; exact hne e; exact hq e))).trans hc
section
variable {w wr wr1 : World} {vp M g s n n1 q : Nat} {f f1 : Int → Option (List Int)} {bl : List (List Int)} {kn : List Bool}
theorem At.changesR (h : At w wr vp M g s n f bl kn) (hn : n ≤ 1000000) :
    Calls Try.prog 16 #[.pointer (some ⟨vp, 0, none⟩)] wr fun e w' => (∃ v ks, e = .returned v ∧ KeysOf f ks ∧ R59 w' v (putL f ks)) ∧ At w w' vp M g s n f bl kn ∧ Below wr.heap.size wr w' := by
  refine (Changes_walk wr vp (gv s) M n f h.vw hn).mono ?_
  rintro e w' ⟨⟨v, ks, rfl, hK, hR⟩, hB⟩
  exact ⟨⟨v, ks, rfl, hK, Kd.R_reads hR⟩, h.ofBelow hB, hB⟩
end
theorem len_play {src : Int → Option (List Int)} {f' : Int → Option (List Int)} {seen : List (List Int)} : ∀ (ds : List DoR) (f : Int → Option (List Int)) (acc : List (List Int)), playF src ds f acc = .done f' seen → seen.length ≤ acc.length + ds.length
  | [], f, acc, h => by
    unfold playF at h
    injection h with _ h
    subst h
    simp
  | d :: ds, f, acc, h => by
    unfold playF at h
    split at h
    · have := len_play ds _ _ h
      simp only [List.length_cons]
      omega
    · cases hs : seeF src f d.slot with
      | none => rw [hs] at h; cases h
      | some b =>
        rw [hs] at h
        have := len_play ds _ _ h
        simp only [List.length_cons, List.length_append, List.length_nil] at this ⊢
        omega
theorem len_chS : ∀ (l out : List S59), (chS l out).length ≤ l.length + out.length
  | [], out => by simp [chS]
  | p :: r, out => by
    unfold chS
    have := len_chS r (if r.all (fun q => q.f0 != p.f0) then insS p out else out)
    split at this
    · rename_i h
      rw [if_pos h]
      rw [len_insS] at this
      simp only [List.length_cons]
      omega
    · rename_i h
      rw [if_neg h]
      simp only [List.length_cons]
      omega
/-- Where ViewRuns stands at the head of its loop. -/
structure RunsMid (w wr : World) (vp M g s p8 a8 p9 i : Nat) (bl : List (List Int)) (kn : List Bool) (v1 v2 : Value) : Prop where
  st : ∃ n f, n ≤ 200 ∧ At w wr vp M g s n f bl kn
  c8 : wr.cell? ⟨p8, 0, none⟩ = some (.slice (some ⟨a8, 0, none⟩) 2 2)
  e0 : wr.cell? ⟨a8, 0, none⟩ = some v1
  e1 : wr.cell? ⟨a8, 1, none⟩ = some v2
  c9 : wr.cell? ⟨p9, 0, none⟩ = some (.int .i64 i)
theorem runs_start {W3 W4 : World} {vp M s : Nat} {bl : List (List Int)} {kn : List Bool} {v1 v2 : Value} (hV : Vw W4 vp (gv s) M 0 (fun _ => none)) (hB : Below W3.heap.size W3 W4) (hS : Src W3 s bl kn) (hM : W3.heap.size ≤ M) :
    RunsMid W3 ((((W4.alloc (.cells #[.pointer (some ⟨vp, 0, none⟩)] 30)).alloc (.cells #[v1, v2] 26)).alloc (.cells #[.slice (some ⟨W4.heap.size + 1, 0, none⟩) 2 2] 33)).alloc (.cells #[.int .i64 0] 3)) vp M W4.heap.size s (W4.heap.size + 1 + 1) (W4.heap.size + 1) (W4.heap.size + 1 + 1 + 1) 0 bl kn v1 v2 := by
  have s1 : (W4.alloc (.cells #[.pointer (some ⟨vp, 0, none⟩)] 30)).heap.size = W4.heap.size + 1 := by simp
  have a0 := blk_new' (w := W4) rfl #[.pointer (some ⟨vp, 0, none⟩)] 30
  have ba : Below W4.heap.size W4 (W4.alloc (.cells #[.pointer (some ⟨vp, 0, none⟩)] 30)) := (Below.refl _ _).alloc (Nat.le_refl _) _
  generalize W4.alloc (.cells #[.pointer (some ⟨vp, 0, none⟩)] 30) = a at s1 a0 ba
  have s2 : (a.alloc (.cells #[v1, v2] 26)).heap.size = W4.heap.size + 1 + 1 := by simp [s1]
  have b0 := (Go.Deep.blk_alloc_lt a (.cells #[v1, v2] 26) W4.heap.size (by omega)).trans a0
  have b1 := blk_new' s1 #[v1, v2] 26
  have bb := ba.alloc (by omega) (.cells #[v1, v2] 26)
  generalize a.alloc (.cells #[v1, v2] 26) = b at s2 b0 b1 bb
  have s3 : (b.alloc (.cells #[.slice (some ⟨W4.heap.size + 1, 0, none⟩) 2 2] 33)).heap.size = W4.heap.size + 1 + 1 + 1 := by simp [s2]
  have c0 := (Go.Deep.blk_alloc_lt b (.cells #[.slice (some ⟨W4.heap.size + 1, 0, none⟩) 2 2] 33) W4.heap.size (by omega)).trans b0
  have c1 := (Go.Deep.blk_alloc_lt b (.cells #[.slice (some ⟨W4.heap.size + 1, 0, none⟩) 2 2] 33) (W4.heap.size + 1) (by omega)).trans b1
  have c2 := blk_new' s2 #[.slice (some ⟨W4.heap.size + 1, 0, none⟩) 2 2] 33
  have bc := bb.alloc (by omega) (.cells #[.slice (some ⟨W4.heap.size + 1, 0, none⟩) 2 2] 33)
  generalize b.alloc (.cells #[.slice (some ⟨W4.heap.size + 1, 0, none⟩) 2 2] 33) = cw at s3 c0 c1 c2 bc
  have d0 := (Go.Deep.blk_alloc_lt cw (.cells #[.int .i64 0] 3) W4.heap.size (by omega)).trans c0
  have d1 := (Go.Deep.blk_alloc_lt cw (.cells #[.int .i64 0] 3) (W4.heap.size + 1) (by omega)).trans c1
  have d2 := (Go.Deep.blk_alloc_lt cw (.cells #[.int .i64 0] 3) (W4.heap.size + 1 + 1) (by omega)).trans c2
  have d3 := blk_new' s3 #[.int .i64 0] 3
  have bd := bc.alloc (by omega) (.cells #[.int .i64 0] 3)
  have hbd : Below W3.heap.size W3 (cw.alloc (.cells #[.int .i64 0] 3)) := hB.trans (bd.mono hB.size)
  exact ⟨⟨0, _, by omega, ⟨hbd, hV.below bd, hS.cm (Cm.below hbd), by simp [World.cell?, d0], hM⟩⟩, by simp [World.cell?, d2], by simp [World.cell?, d1], by simp [World.cell?, d1], by simp [World.cell?, d3]⟩
end Go.Proofs.Ythaipkfaaojppaa.Vw
