/- ViewAgain, walked. -/
import Derived.Test.YthaipkfaaojppaaV21
import Derived.Deep.RegionHeld3
namespace Go.Proofs.Ythaipkfaaojppaa.Vw
open Go.RowKit Go.Proofs.YthaipkfaaojppaaW.PrintWords Go.Proofs.YthaipkfaaojppaaW.PrintLast Go.Proofs.YthaipkfaaojppaaW.PrintMore
set_option linter.unusedVariables false
/-- A copy of the source, its 'known' of the call's own. -/
structure OwnS (w wx : World) (AB : Option Addr) (nB cB : Nat) (kn : List Bool) (s1 : Nat) (v : Value) : Prop where
  low : w.heap.size ≤ s1
  blk : wx.heap[s1]? = some (.cells #[.slice AB nB cB, v] 25 (0, 0))
  row : KB wx w.heap.size v kn
theorem OwnS.below {w wx wy : World} {AB : Option Addr} {nB cB : Nat} {kn : List Bool} {s1 : Nat} {v : Value} (h : OwnS w wx AB nB cB kn s1 v) (hb : Below wx.heap.size wx wy) : OwnS w wy AB nB cB kn s1 v :=
  ⟨h.low, (hb.block s1 (Array.getElem?_eq_some_iff.1 h.blk).1).trans h.blk, Kd.R_below h.row hb⟩
theorem step_rows {P : Program} {ops : Array Oper} {o : Oper} {a : Act} {Q : Exit → Act → World → Prop} {Kc : Act → World → Prop} {E : Prop} {w0 W : World} (hgd : o.guard = none) (base : Nat) (s x : Operand) (t e : TypeId)
    (ho : o.op = .call { callee := .builtin .append, args := #[s, x], argTypes := #[t, t] }) (ht : P.underlying t = some (.slice e)) (hinfo : (P.info? e).map (fun i => (i.zero, i.size, i.bytes)) = some (some (.bool false), 1, 1))
    (v : Value) (ys : List Bool) (A : Option Addr) (c : Nat) (hs : a.eval s = v) (hx : a.eval x = .slice A ys.length c)
    (HO : Kd.bool.R e W base (fun _ => True) v []) (HR : RowK W A ys) (HB : Below base w0 W) (hbase : base ≤ W.heap.size) (hl : ys.length ≤ 300)
    (h : ∀ v1 w1, Kd.bool.R e w1 base (fun _ => True) v1 ys → Below base w0 w1 → W.grownBy w1 v.ownBlock → Kc (a.put o.dst v1) w1) :
    if Region.wanted o (yielded ops a.tmps) = true then Oper.wp P o a W Kc Q else E := by
  have hw : Region.wanted o (yielded ops a.tmps) = true := by simp [Region.wanted, hgd]
  have := Kd.R_append_rows_step (Q := Q) (Kc := Kc) Kd.bool (Rr := fun (x : Bool) (cs : List Value) => cs = [.bool x]) (w0 := w0) base hw s x t e (.bool false) 1 ho ht hinfo rfl (by decide) (by decide) v [] ys A ys.length c (fun _ => True) (fun _ => False) hs hx HO (HR.reads (by omega)) (fun x cs h => h) (fun _ h => h.elim) (fun _ _ => trivial) HB hbase (by simp; omega)
    (fun v1 w1 hR hb hg _ => h v1 w1 (by simpa using hR) hb hg)
  rw [if_pos hw] at this ⊢
  exact this
structure BL (B : Nat) (w W : World) : Prop where
  bel : Below B w W
  le : B ≤ W.heap.size
theorem BL.drew {B : Nat} {w W : World} (h : BL B w W) : BL B w W.drew := ⟨h.bel.drew, h.le⟩
theorem BL.alloc {B : Nat} {w W : World} (h : BL B w W) (o : Obj) : BL B w (W.alloc o) := ⟨h.bel.alloc h.le o, Nat.le_trans h.le (by simp)⟩
theorem below_set2 {B b : Nat} {w W : World} (h : Below B w W) (hb : B ≤ b) (x y : Value) : Below B w ((W.setCell ⟨b, 0, none⟩ x).setCell ⟨b, 1, none⟩ y) :=
  ⟨h.os, h.tape, h.output, by simp only [World.setCell, Array.size_modify]; exact h.size, fun k hk => by
    rw [Below.heap_setCell _ _ _ _ (by show k ≠ b; omega), Below.heap_setCell _ _ _ _ (by show k ≠ b; omega)]
    exact h.block k hk⟩
theorem far2 {w : World} {p : Addr} {v x y : Value} {b : Nat} (h : w.cell? p = some v) (hne : p.block ≠ b) : ((w.setCell ⟨b, 0, none⟩ x).setCell ⟨b, 1, none⟩ y).cell? p = some v :=
  (World.cell?_of_block (w := w) ((Below.heap_setCell _ _ _ _ hne).trans (Below.heap_setCell _ _ _ _ hne))).trans h
theorem blk_set2 {w : World} {b : Nat} {u0 u1 x y : Value} {t : TypeId} (h : w.heap[b]? = some (.cells #[u0, u1] t (0, 0))) : ((w.setCell ⟨b, 0, none⟩ x).setCell ⟨b, 1, none⟩ y).heap[b]? = some (.cells #[x, y] t (0, 0)) := by
  simp [World.setCell, Array.getElem?_modify, h]
theorem cell0_blk {w : World} {b : Nat} {u0 u1 : Value} {t : TypeId} (h : w.heap[b]? = some (.cells #[u0, u1] t (0, 0))) : w.cell? ⟨b, 0, none⟩ = some u0 ∧ w.cell? ⟨b, 1, none⟩ = some u1 ∧ w.frozen? ⟨b, 0, none⟩ = false ∧ w.frozen? ⟨b, 1, none⟩ = false := by
  refine ⟨by simp [World.cell?, h], by simp [World.cell?, h], by simp [World.frozen?, h], by simp [World.frozen?, h]⟩
theorem grown_blk {W w1 : World} {row : Option Nat} (hg : W.grownBy w1 row) {b : Nat} {o : Obj} (h : W.heap[b]? = some o) (hne : some b ≠ row) : w1.heap[b]? = some o :=
  (hg.block b (Array.getElem?_eq_some_iff.1 h).1 hne).trans h
theorem OwnS.mk0 {w wx : World} {AB : Option Addr} {nB cB : Nat} {kn : List Bool} {v : Value} (hl : w.heap.size ≤ wx.heap.size) (h : KB wx w.heap.size v kn) : OwnS w (wx.alloc (.cells #[.slice AB nB cB, v] 25)) AB nB cB kn wx.heap.size v :=
  ⟨hl, blk_new' rfl _ _, Kd.R_below h ((Below.refl _ _).alloc (Nat.le_refl _) _)⟩
theorem OwnS.mk1 {w wx : World} {AB : Option Addr} {nB cB b : Nat} {kn : List Bool} {v u0 u1 : Value} (hl : w.heap.size ≤ b) (hb : wx.heap[b]? = some (.cells #[u0, u1] 25 (0, 0))) (h : KB wx w.heap.size v kn) : OwnS w ((wx.setCell ⟨b, 0, none⟩ (.slice AB nB cB)).setCell ⟨b, 1, none⟩ v) AB nB cB kn b v := by
  have h1 : (wx.setCell ⟨b, 0, none⟩ (.slice AB nB cB)).heap[b]? = some (.cells #[.slice AB nB cB, u1] 25 (0, 0)) := by simp [World.setCell, Array.getElem?_modify, hb]
  have ht : ∀ q, q ∈ 4 :: Kd.bool.E → q ≠ 25 := by decide
  exact ⟨hl, blk_set2 hb, Kd.R_set (Kd.R_set h hb ht 0 _) h1 ht 1 _⟩
theorem OwnS.cells {w wx : World} {AB : Option Addr} {nB cB : Nat} {kn : List Bool} {s1 : Nat} {v : Value} (h : OwnS w wx AB nB cB kn s1 v) : wx.cell? ⟨s1, 0, none⟩ = some (.slice AB nB cB) ∧ wx.cell? ⟨s1, 1, none⟩ = some v :=
  ⟨(cell0_blk h.blk).1, (cell0_blk h.blk).2.1⟩
theorem OwnS.src {w wx : World} {AB A1 : Option Addr} {bl : List (List Int)} {cB n c1 : Nat} {kn : List Bool} {s1 : Nat} (h : OwnS w wx AB bl.length cB kn s1 (.slice A1 n c1)) (hB : RowB wx AB bl) (hl : bl.length = kn.length) (hf : bl.length ≤ 300) (hs : ∀ i, i < bl.length → (bl.getD i []).length ≤ 131072) : Src wx s1 bl kn := by
  have hn := (Kd.R_reads' h.row).1
  subst hn
  exact ⟨⟨AB, cB, h.cells.1, hB⟩, ⟨A1, c1, h.cells.2, h.row.row⟩, hl, hf, fun i hi => Nat.le_trans (hs i hi) (by decide)⟩
/-- A place of the row of Booleans is set. -/
theorem OwnS.at' {w wx : World} {AB A1 : Option Addr} {nB cB n c1 : Nat} {kn : List Bool} {s1 : Nat} (h : OwnS w wx AB nB cB kn s1 (.slice A1 n c1)) {i : Nat} (hi : i < kn.length) :
    ∃ ga, A1 = some ⟨ga, 0, none⟩ ∧ w.heap.size ≤ ga ∧ (∃ cells, wx.heap[ga]? = some (.cells cells 4 (0, 0))) ∧ wx.cell? ⟨ga, i, none⟩ = some (.bool (kn.getD i false)) ∧ wx.frozen? ⟨ga, i, none⟩ = false ∧
      OwnS w (wx.setCell ⟨ga, i, none⟩ (.bool true)) AB nB cB (kn.set i true) s1 (.slice A1 n c1) := by
  have hn := (Kd.R_reads' h.row).1
  obtain ⟨ga, cap, e, hb, hlt, hty⟩ := Kd.R_form h.row (by omega)
  injection e with e1 e2 e3
  subst e1 e3
  have hc := Kd.R_celln false h.row (i : Int) (by omega) (by omega)
  have hp := Kd.R_putn h.row (i : Int) true
  rw [Int.toNat_natCast] at hc hp
  refine ⟨ga, rfl, hb, hty, by rw [hc.1]; simp [rdOf], hc.2, ⟨h.low, ?_, hp⟩⟩
  rw [Below.heap_setCell _ _ _ _ (by
    show s1 ≠ ga
    rintro rfl
    obtain ⟨cells, hh⟩ := hty
    rw [h.blk] at hh
    injection hh with hh
    injection hh with _ hh
    exact absurd hh (by decide))]
  exact h.blk
theorem below_set1 {B b i : Nat} {w W : World} (h : Below B w W) (hb : B ≤ b) (x : Value) : Below B w (W.setCell ⟨b, i, none⟩ x) :=
  ⟨h.os, h.tape, h.output, by simp only [World.setCell, Array.size_modify]; exact h.size, fun k hk => by
    rw [Below.heap_setCell _ _ _ _ (by show k ≠ b; omega)]
    exact h.block k hk⟩
theorem VwT.setAt {wr : World} {vp M n q i : Nat} {f : Int → Option (List Int)} {T : Nat → Prop} {gg : Value} (h : VwT wr vp gg M n f T) (hb : ∃ cells, wr.heap[q]? = some (.cells cells 4 (0, 0))) (h1 : q ≠ vp) (v : Value) : VwT (wr.setCell ⟨q, i, none⟩ v) vp gg M n f T := by
  obtain ⟨cells, hb⟩ := hb
  have h2 : q ≠ M := by
    rintro rfl
    obtain ⟨es, clock, he⟩ := h.own.blk
    rw [hb] at he
    simp at he
  have keep : ∀ j, j ≠ q → (wr.setCell ⟨q, i, none⟩ v).heap[j]? = wr.heap[j]? := fun j hj => Below.heap_setCell _ _ _ _ hj
  refine ⟨(World.cell?_of_block (w := wr) (keep vp h1.symm)).trans h.get, (World.cell?_of_block (w := wr) (keep vp h1.symm)).trans h.map, h.own.move (keep M h2.symm) (fun b _ _ hc => keep b (fun e => ?_))⟩
  obtain ⟨cs, hc⟩ := hc
  rw [e, hb] at hc
  simp at hc
/-- Whatever is no Boolean stays. -/
def CmN (w w' : World) : Prop := ∀ p v, w.cell? p = some v → (∀ b, v ≠ .bool b) → w'.cell? p = some v
theorem CmN.of {w w' : World} (h : Cm w w') : CmN w w' := fun p v e _ => h p v e
theorem CmN.set {w : World} {ga i : Nat} {b : Bool} (h : w.cell? ⟨ga, i, none⟩ = some (.bool b)) (x : Value) : CmN w (w.setCell ⟨ga, i, none⟩ x) := fun p v e hv => by
  refine (World.cell?_setCell_other _ _ _ _ (fun hp => ?_)).trans e
  rw [← hp, h] at e
  injection e with e
  exact hv b e.symm
theorem int_cmn {w w' : World} {A : Option Addr} {n : Nat} {xs : List Int} (h : Kd.C (Kd.int .u8) w A n xs) (c : CmN w w') : Kd.C (Kd.int .u8) w' A n xs := by
  refine ⟨h.1, h.2.1, fun hp => ?_⟩
  obtain ⟨ad, e, hc⟩ := h.2.2 hp
  refine ⟨ad, e, fun j p hj => ?_⟩
  obtain ⟨cs, h1, h2, h3⟩ := hc j p hj
  obtain rfl : cs = [.int .u8 p] := h2
  exact ⟨_, h1, rfl, fun i u hu => c _ _ (h3 i u hu) (by
    rcases i with _ | i
    · simp at hu
      subst hu
      intro b hb
      cases hb
    · simp at hu)⟩
theorem R44.cmn {w w' : World} {v : Value} {l : List (List Int)} (h : R44 w v l) (c : CmN w w') : R44 w' v l := by
  obtain ⟨A, cc, e, h1, h⟩ := h
  refine ⟨A, cc, e, h1, h.1, h.2.1, fun hp => ?_⟩
  obtain ⟨ad, e, hc⟩ := h.2.2 hp
  refine ⟨ad, e, fun j p hj => ?_⟩
  obtain ⟨cs, h1, ⟨A1, c1, rfl, h2, h4⟩, h3⟩ := hc j p hj
  exact ⟨_, h1, ⟨A1, c1, rfl, h2, int_cmn h4 c⟩, fun i u hu => c _ _ (h3 i u hu) (by
    rcases i with _ | i
    · simp at hu
      subst hu
      intro b hb
      cases hb
    · simp at hu)⟩
theorem R59.cmn {w w' : World} {v : Value} {l : List Go.Proofs.Ythaipkfaaojppaa.PViewRuns.S59} (h : R59 w v l) (c : CmN w w') : R59 w' v l := by
  obtain ⟨A, cc, e, h1, h⟩ := h
  refine ⟨A, cc, e, h1, h.1, h.2.1, fun hp => ?_⟩
  obtain ⟨ad, e, hc⟩ := h.2.2 hp
  refine ⟨ad, e, fun j p hj => ?_⟩
  obtain ⟨cs, h1, hK, h3⟩ := hc j p hj
  obtain ⟨A1, c1, rfl, h2, h4⟩ := Go.Proofs.Ythaipkfaaojppaa.PViewRuns.k59_open hK
  exact ⟨_, h1, Go.Proofs.Ythaipkfaaojppaa.PViewRuns.k59_mk w' p h2 (int_cmn h4 c), fun i u hu => c _ _ (h3 i u hu) (by
    rcases i with _ | _ | i
    · simp at hu
      subst hu
      intro b hb
      cases hb
    · simp at hu
      subst hu
      intro b hb
      cases hb
    · simp at hu)⟩
theorem OwnS.tchS {w wx wy : World} {AB : Option Addr} {nB cB : Nat} {kn : List Bool} {s1 : Nat} {v : Value} {M q : Nat} (h : OwnS w wx AB nB cB kn s1 v) (t : TchS (fun i => i = M ∨ i = q) wx wy) (hm : MapBlk wx M) (hq : ∃ cells, wx.heap[q]? = some (.cells cells 22 (0, 0))) : OwnS w wy AB nB cB kn s1 v := by
  obtain ⟨es, clock, he⟩ := hm
  obtain ⟨cq, hq⟩ := hq
  have move : ∀ (b : Nat) (cells : Array Value) (e : Nat), e ≠ 22 → wx.heap[b]? = some (.cells cells e (0, 0)) → wy.heap[b]? = wx.heap[b]? := fun b cells e hne hb => t.block b (Array.getElem?_eq_some_iff.1 hb).1 (by
    rintro (rfl | rfl)
    · rw [hb] at he
      simp at he
    · rw [hb] at hq
      injection hq with hq
      injection hq with _ hq
      exact hne hq)
  refine ⟨h.low, (move s1 _ 25 (by decide) h.blk).trans h.blk, R_typ h.row (fun b cells e he' hx => move b cells e ?_ hx)⟩
  rintro rfl
  revert he'
  decide
theorem all_true {kn2 : List Bool} {n : Nat} (hl : kn2.length = n) (h : ∀ j, j < n → kn2.getD j false = true) : kn2 = List.replicate n true := by
  refine List.ext_getElem (by simp [hl]) (fun i h1 h2 => ?_)
  have := h i (by omega)
  rw [List.getD_eq_getElem?_getD, List.getElem?_eq_getElem h1] at this
  simpa using this
/-- Where ViewAgain stands at the head of its last loop. -/
structure AgMid (w wr : World) (vp M g s i : Nat) (AB A1 : Option Addr) (cB c1 n0 : Nat) (bl : List (List Int)) (kn : List Bool) (v9 v10 : Value) (seen : List (List Int)) (puts : List Go.Proofs.Ythaipkfaaojppaa.PViewRuns.S59) : Prop where
  st : ∃ n f, n ≤ 200 ∧ At w wr vp M g s n f bl kn
  own : OwnS w wr AB bl.length cB kn s (.slice A1 n0 c1)
  cnt : kn.count false + i ≤ bl.length
  len : kn.length = bl.length
  want : R44 wr v9 seen
  puts : R59 wr v10 (chS puts [])
set_option maxRecDepth 100000 in
set_option maxHeartbeats 8000000 in
theorem ViewAgain_walk (w : World) (AB : Option Addr) (bl : List (List Int)) (cB : Nat) (AK : Option Addr) (kn : List Bool) (cK : Nat) (A : Option Addr) (ds : List DoR) (c : Nat) (hG : Given w AB bl AK kn A ds) :
    Calls Try.prog 4 #[.agg #[.slice AB bl.length cB, .slice AK kn.length cK], .slice A ds.length c] w fun e w' => e = .returned (.bool true) ∧ Below w.heap.size w w' := by
  have hmf : ∀ (fn : Fn) (first cap : Array Value) (w : World), (Instr.makeFunc fn first cap).run Try.prog w = .ok (.func fn first cap) w := fun _ _ _ _ => rfl
  obtain ⟨W0, hW0⟩ : ∃ W0, W0 = owW w AB bl.length cB AK kn.length cK A ds.length c := ⟨_, rfl⟩
  have hF := ow_at w AB bl.length cB AK kn.length cK A ds.length c
  rw [← hW0] at hF
  have hR0 := hG.raw (Cm.below hF.bel) hF.s0 hF.s1
  have hC0 := hG.script.cm (Cm.below hF.bel)
  have hWd := hG.wild
  have cA := awake_walk W0
  have hp0 := hF.p0
  have hz := hF.size
  unfold owW at hW0
  replace hG := Lib.hid hG
  replace hF := Lib.hid hF
  replace hR0 := Lib.hid hR0
  replace hC0 := Lib.hid hC0
  replace hWd := Lib.hid hWd
  go_enter Try.func4, Try.ntmps4
  go_wp2_with (first
    | (go_at_call 7; rw [← hW0]; refine cA.mono ?_; clear cA; rintro e W1 ⟨rfl, hB1⟩; have p1 := (Cm.below hB1) _ _ hp0; have cM := may_walk W1 w.heap.size bl kn A c ds (hR0.out.cm (Cm.below hB1)) (hC0.out.cm (Cm.below hB1)) hWd.out; replace hB1 := Lib.hid hB1))
  refine cM.mono ?_
  clear cM
  rintro e W2 ⟨⟨b, rfl, hok⟩, hB2⟩
  have hBw : Below w.heap.size w W2 := (hF.out.bel.trans (hB1.out.mono (by omega))).trans (hB2.mono (by have := hB1.out.size; omega))
  cases b with
  | false =>
    clear hok hB2 p1
    replace hBw := Lib.hid hBw
    go_wp2_with fail
    go_ret
    exact ⟨rfl, hBw.out⟩
  | true =>
    have ok := hok rfl
    have hB02 : Below W0.heap.size W0 W2 := hB1.out.trans (hB2.mono hB1.out.size)
    have hR2 := hR0.out.cm (Cm.below hB02)
    have hT2 := ok.tame hWd.out
    have hC2 := hC0.out.cm (Cm.below hB02)
    have p2 := (Cm.below hB02) _ _ hp0
    have hz2 := hB02.size
    have b2 := (Cm.below hB02) _ _ hF.out.s0
    have k2 := (Cm.below hB02) _ _ hF.out.s1
    have hrB : RowB W2 AB bl := hG.out.blocks.cm ((Cm.below hF.out.bel).trans (Cm.below hB02))
    have hrK : RowK W2 AK kn := hG.out.known.cm ((Cm.below hF.out.bel).trans (Cm.below hB02))
    have hlen := ok.len
    have hfew := ok.few
    have hsmB := ok.smallB
    have few := ok.done
    have hpl : w.heap.size + 1 < W2.heap.size := by omega
    clear hok hB2 p1 ok hR0 hC0 hWd hB02
    replace hR2 := Lib.hid hR2
    replace hT2 := Lib.hid hT2
    replace hC2 := Lib.hid hC2
    replace hBw := Lib.hid hBw
    replace hrB := Lib.hid hrB
    replace hrK := Lib.hid hrK
    replace hlen := Lib.hid hlen
    replace hsmB := Lib.hid hsmB
    clear hp0 hW0 hF hB1 hG
    go_wp2_with fail
    go_loopg [5] ds.length (fun gh v5 wr => ∃ (i : Nat), i ≤ ds.length ∧ gh = ds.length - i ∧ v5 = .int .i64 i ∧ Below W2.heap.size W2 wr ∧ ∀ d ∈ ds.take i, 0 ≤ d.slot ∧ d.slot < bl.length)
    case atStart => exact ⟨0, by omega, rfl, rfl, Below.refl _ _, fun d hd => by simp at hd⟩
    case round =>
      obtain ⟨i, hi, hgi, rfl, hX, hpre⟩ := hrel
      have pc := (Cm.below hX) _ _ p2
      have bc := (Cm.below hX) _ _ b2
      have kc := (Cm.below hX) _ _ k2
      by_cases hlt : i < ds.length
      · obtain ⟨d, hd⟩ : ∃ d, ds[i]? = some d := ⟨_, List.getElem?_eq_getElem hlt⟩
        obtain ⟨x, vi, rfl, _, k1, _, _⟩ := (hC2.out.cm (Cm.below hX)) i d hd
        have hpre' : (0 ≤ d.slot ∧ d.slot < bl.length) → ∀ d ∈ ds.take (i + 1), 0 ≤ d.slot ∧ d.slot < bl.length := by
          intro hds d' hd'
          rw [List.take_add_one, hd] at hd'
          simp only [Option.toList, List.mem_append, List.mem_singleton] at hd'
          rcases hd' with h | rfl
          · exact hpre d' h
          · exact hds
        obtain ⟨sl, hsl⟩ : ∃ sl, sl = d.slot := ⟨_, rfl⟩
        rw [← hsl] at k1 hpre'
        replace hX := Lib.hid hX
        replace hpre' := Lib.hid hpre'
        clear hpre hsl hd
        by_cases h0 : sl < 0
        · have e0 : decide (sl < 0) = true := by simpa using h0
          go_wp2_with fail
          go_quiet (fail)
          go_wp2_with fail
          go_ret
          exact ⟨rfl, hBw.out.trans ((hX.out.trans ((Drawn0.mk ⟨nq, rfl⟩ : Drawn0 _ _).below.mono hX.out.size)).mono hBw.out.size)⟩
        · have e0 : decide (sl < 0) = false := by simpa using h0
          by_cases h1 : (bl.length : Int) ≤ sl
          · have e1 : decide ((bl.length : Int) ≤ sl) = true := by simpa using h1
            go_wp2_with fail
            go_quiet (fail)
            go_wp2_with fail
            go_ret
            exact ⟨rfl, hBw.out.trans ((hX.out.trans ((Drawn0.mk ⟨nq, rfl⟩ : Drawn0 _ _).below.mono hX.out.size)).mono hBw.out.size)⟩
          · have e1 : decide ((bl.length : Int) ≤ sl) = false := by simpa using h1
            go_wp2_with fail
            go_quiet (fail)
            go_wp2_with fail
            go_roundg (ds.length - (i + 1))
            case measure => omega
            case rel => exact ⟨i + 1, by omega, rfl, by go_num, hX.out.trans ((Drawn0.mk ⟨nq, rfl⟩ : Drawn0 _ _).below.mono hX.out.size), hpre'.out ⟨by omega, by omega⟩⟩
      · obtain rfl : i = ds.length := by omega
        rw [List.take_length] at hpre
        replace hpre := Lib.hid hpre
        replace hX := Lib.hid hX
        go_upto_region 10 with fail
        have hkl : kn.length ≤ 300 := by have := hlen.out; omega
        have hszr := hX.out.size
        have hBL : BL W2.heap.size W2 wr := ⟨hX.out, hszr⟩
        replace hBL := Lib.hid hBL
        go_cut [6] (fun v6 wx => ∃ s1 A1 c1, v6 = .pointer (some ⟨s1, 0, none⟩) ∧ Below W2.heap.size W2 wx ∧ OwnS W2 wx AB bl.length cB kn s1 (.slice A1 kn.length c1))
        case first =>
          go_region_held3 (fun w' => w'.cell? ⟨w.heap.size, 0, none⟩ = some (.slice AB bl.length cB) ∧ w'.cell? ⟨w.heap.size, 1, none⟩ = some (.slice AK kn.length cK))
            (first | go_keep | exact ⟨far2 q0 (by show w.heap.size ≠ _; omega), far2 q1 (by show w.heap.size ≠ _; omega)⟩)
            ((refine step_rows (w0 := W2) rfl W2.heap.size (.tmp 48) (.tmp 50) 23 4 rfl Try.underlying23 info4 _ kn AK cK rfl rfl (KB.empty (by first | exact blk_new' rfl _ _ | exact blk_new' (by simp) _ _ | exact (Go.Deep.blk_alloc_lt _ _ _ (by simp)).trans (blk_new' rfl _ _)) (by omega)) (hrK.out.cm (Cm.below (by first | exact hBL.out.drew.bel | exact (hBL.out.drew.alloc _).bel | exact ((hBL.out.drew.alloc _).alloc _).bel))) (by first | exact hBL.out.drew.bel | exact (hBL.out.drew.alloc _).bel | exact ((hBL.out.drew.alloc _).alloc _).bel) (by first | exact hBL.out.drew.le | exact (hBL.out.drew.alloc _).le | exact ((hBL.out.drew.alloc _).alloc _).le) hkl ?_; intro v1 w1 hR1 hb1 hg1; obtain ⟨A1, c1, rfl⟩ := Kd.R_slice hR1; have q0 := (Cm.below hb1) _ _ b2; have q1 := (Cm.below hb1) _ _ k2; first | (have f0 : w1.heap[wr.heap.size]? = some (.cells #[.slice none 0 0, .slice none 0 0] 25 (0, 0)) := grown_blk hg1 ((Go.Deep.blk_alloc_lt _ _ _ (by simp)).trans (blk_new' rfl _ _)) (fun e => absurd (Option.some.inj (show some wr.heap.size = some (wr.heap.size + 1) from e)) (by omega)); obtain ⟨f1, f2, f3, f4⟩ := cell0_blk f0) | (have f0 : w1.heap[wr.heap.size + 1]? = some (.cells #[.slice none 0 0, .slice none 0 0] 25 (0, 0)) := grown_blk hg1 (blk_new' (by simp) _ _) (fun e => absurd (Option.some.inj (show some (wr.heap.size + 1) = some wr.heap.size from e)) (by omega)); obtain ⟨f1, f2, f3, f4⟩ := cell0_blk f0) | skip))
          all_goals
            go_wp2_with fail
            go_meet
            first
              | exact ⟨_, A1, c1, rfl, hb1.alloc hb1.size _, OwnS.mk0 hb1.size hR1⟩
              | exact ⟨_, A1, c1, rfl, below_set2 hb1 (by omega) _ _, OwnS.mk1 (by omega) f0 hR1⟩
        case rest =>
          obtain ⟨s1, A1, c1, rfl, hY, hO⟩ := hcut
          have bcc := (Cm.below hY) _ _ b2
          have kcc := (Cm.below hY) _ _ k2
          have hrKc := hrK.out.cm (Cm.below hY)
          have hszc := hY.size
          have hBLc : BL wc.heap.size wc wc := ⟨Below.refl _ _, Nat.le_refl _⟩
          replace hBLc := Lib.hid hBLc
          replace hrKc := Lib.hid hrKc
          obtain ⟨wo, hwo⟩ : ∃ wo, wc = wo := ⟨_, rfl⟩
          have hYo := hY
          have hOo := hO
          rw [hwo] at hYo hOo
          replace hYo := Lib.hid hYo
          replace hOo := Lib.hid hOo
          clear pc bc kc hX hBL hY hO
          go_upto_region 11 with fail
          go_cut [7] (fun v7 wx => ∃ s2 A2 c2, v7 = .pointer (some ⟨s2, 0, none⟩) ∧ Below wo.heap.size wo wx ∧ OwnS wo wx AB bl.length cB kn s2 (.slice A2 kn.length c2))
          case first =>
            subst hwo
            go_region_held3 (fun w' => w'.cell? ⟨w.heap.size, 0, none⟩ = some (.slice AB bl.length cB) ∧ w'.cell? ⟨w.heap.size, 1, none⟩ = some (.slice AK kn.length cK))
              (first | go_keep | exact ⟨far2 q0 (by show w.heap.size ≠ _; omega), far2 q1 (by show w.heap.size ≠ _; omega)⟩)
              ((refine step_rows (w0 := wc) rfl wc.heap.size (.tmp 55) (.tmp 57) 23 4 rfl Try.underlying23 info4 _ kn AK cK rfl rfl (KB.empty (by first | exact blk_new' rfl _ _ | exact blk_new' (by simp) _ _ | exact (Go.Deep.blk_alloc_lt _ _ _ (by simp)).trans (blk_new' rfl _ _)) (by omega)) (hrKc.out.cm (Cm.below (by first | exact hBLc.out.drew.bel | exact (hBLc.out.drew.alloc _).bel | exact ((hBLc.out.drew.alloc _).alloc _).bel))) (by first | exact hBLc.out.drew.bel | exact (hBLc.out.drew.alloc _).bel | exact ((hBLc.out.drew.alloc _).alloc _).bel) (by first | exact hBLc.out.drew.le | exact (hBLc.out.drew.alloc _).le | exact ((hBLc.out.drew.alloc _).alloc _).le) hkl ?_; intro v1 w1 hR1 hb1 hg1; obtain ⟨A2, c2, rfl⟩ := Kd.R_slice hR1; have q0 := (Cm.below hb1) _ _ bcc; have q1 := (Cm.below hb1) _ _ kcc; first | (have f0 : w1.heap[wc.heap.size]? = some (.cells #[.slice none 0 0, .slice none 0 0] 25 (0, 0)) := grown_blk hg1 ((Go.Deep.blk_alloc_lt _ _ _ (by simp)).trans (blk_new' rfl _ _)) (fun e => absurd (Option.some.inj (show some wc.heap.size = some (wc.heap.size + 1) from e)) (by omega)); obtain ⟨f1, f2, f3, f4⟩ := cell0_blk f0) | (have f0 : w1.heap[wc.heap.size + 1]? = some (.cells #[.slice none 0 0, .slice none 0 0] 25 (0, 0)) := grown_blk hg1 (blk_new' (by simp) _ _) (fun e => absurd (Option.some.inj (show some (wc.heap.size + 1) = some wc.heap.size from e)) (by omega)); obtain ⟨f1, f2, f3, f4⟩ := cell0_blk f0) | skip))
            all_goals
              go_wp2_with fail
              go_meet
              first
                | exact ⟨_, A2, c2, rfl, hb1.alloc hb1.size _, OwnS.mk0 hb1.size hR1⟩
                | exact ⟨_, A2, c2, rfl, below_set2 hb1 (by omega) _ _, OwnS.mk1 (by omega) f0 hR1⟩
          case rest =>
            obtain ⟨s2, A2, c2, rfl, hY2, hO2⟩ := hcut
            clear hwo bcc kcc hrKc hBLc hszc
            have hszo := hYo.out.size
            replace hY2 := Lib.hid hY2
            replace hO2 := Lib.hid hO2
            go_wp2_with fail
            go_loopg [8] kn.length (fun gh v8 wr => ∃ (i : Nat) (kn2 : List Bool), i ≤ kn.length ∧ gh = kn.length - i ∧ v8 = .int .i64 i ∧ Below wo.heap.size wo wr ∧ OwnS wo wr AB bl.length cB kn2 s2 (.slice A2 kn.length c2) ∧ kn2.length = kn.length ∧ ∀ j, j < i → kn2.getD j false = true)
            case atStart => exact ⟨0, kn, by omega, rfl, rfl, hY2.out, hO2.out, rfl, fun j hj => absurd hj (by omega)⟩
            case round =>
              obtain ⟨i, kn2, hi, hgi, rfl, hZ, hO, hl2, hpr⟩ := hrel
              clear hY2 hO2
              have kk := hO.cells.2
              by_cases hlt : i < kn.length
              · obtain ⟨ga, rfl, hga, hty, hc, hz, hN⟩ := hO.at' (i := i) (by omega)
                have hZ2 := below_set1 (i := i) hZ hga (.bool true)
                have hpr2 : ∀ j, j < i + 1 → (kn2.set i true).getD j false = true := by
                  intro j hj
                  rw [List.getD_eq_getElem?_getD, List.getElem?_set]
                  by_cases e : i = j
                  · subst e
                    rw [if_pos rfl, if_pos (by omega)]
                    rfl
                  · rw [if_neg e, ← List.getD_eq_getElem?_getD]
                    exact hpr j (by omega)
                replace hZ := Lib.hid hZ
                replace hZ2 := Lib.hid hZ2
                replace hO := Lib.hid hO
                replace hN := Lib.hid hN
                replace hpr2 := Lib.hid hpr2
                clear hpr hty
                go_wp2_with fail
                go_roundg (kn.length - (i + 1))
                case measure => omega
                case rel => exact ⟨i + 1, kn2.set i true, by omega, rfl, by go_num, hZ2.out, hN.out, by simp [hl2], hpr2.out⟩
              · obtain rfl : i = kn.length := by omega
                obtain rfl := all_true hl2 hpr
                have hW := hYo.out.trans (hZ.mono hszo)
                have pc := (Cm.below hW) _ _ p2
                have hS2 : Src wr s2 bl (List.replicate kn.length true) := hO.src (hrB.out.cm (Cm.below hW)) (by rw [List.length_replicate]; exact hlen.out) hfew hsmB.out
                have cR := Run_walk wr s2 bl (List.replicate kn.length true) A c ds hS2 (hC2.out.cm (Cm.below hW)) hT2.out
                rw [← hlen.out] at cR
                obtain ⟨f', seen, hr⟩ := play_done (s1 := getF bl (List.replicate bl.length true)) (ds := ds) (fun d hd => getF_known (hpre.out d hd).1 (hpre.out d hd).2) (fun _ => none) []
                rw [hr] at cR
                unfold RunPost at cR
                have hO1 := hOo.out.below hZ
                replace hZ := Lib.hid hZ
                replace hW := Lib.hid hW
                replace hO := Lib.hid hO
                replace hO1 := Lib.hid hO1
                replace hr := Lib.hid hr
                clear hpr hl2 hS2 hi hgi hlt
                go_wp2_with (first
                  | (go_at_call 14; refine cR.mono ?_; clear cR; rintro e w6 ⟨⟨v1, v2, puts, rfl, hfq, hin, hpl, ⟨ok1, hN1⟩, ⟨ok2, hN2⟩⟩, hB6⟩; subst hfq; have hw1 : R44 w6 v1 seen := Kd.N_reads hN1; have hw2 : R59 w6 v2 (Vw.chS puts []) := Kd.N_reads hN2; have cN := New_walk w6 s1; replace hw1 := Lib.hid hw1; replace hw2 := Lib.hid hw2; replace hB6 := Lib.hid hB6; replace hin := Lib.hid hin; clear hN1 hN2 pc)
                  | (go_at_call 9; refine cN.mono ?_; clear cN; rintro e w7 ⟨rfl, hV, hB7⟩; replace hV := Lib.hid hV; replace hB7 := Lib.hid hB7))
                have h70 : AgMid W2 (w7.alloc (.cells #[.pointer (some ⟨w6.heap.size + 1, 0, none⟩)] 30)) (w6.heap.size + 1) w6.heap.size w7.heap.size s1 0 AB A1 cB c1 kn.length bl kn v1 v2 seen puts := by
                  have hb2 : Below w7.heap.size w7 (w7.alloc (.cells #[.pointer (some ⟨w6.heap.size + 1, 0, none⟩)] 30)) := (Below.refl _ _).alloc (Nat.le_refl _) _
                  have hb6 : Below w6.heap.size w6 (w7.alloc (.cells #[.pointer (some ⟨w6.heap.size + 1, 0, none⟩)] 30)) := hB7.out.trans (hb2.mono hB7.out.size)
                  have hOf := (hO1.out.below hB6.out).below hb6
                  have hsr := hW.out.size
                  have hs6 := hB6.out.size
                  have hbw : Below W2.heap.size W2 (w7.alloc (.cells #[.pointer (some ⟨w6.heap.size + 1, 0, none⟩)] 30)) := hW.out.trans ((hB6.out.trans (hb6.mono hs6)).mono hsr)
                  have hcl := List.count_le_length (a := false) (l := kn)
                  have hle := hlen.out
                  exact ⟨⟨0, _, by omega, ⟨hbw, hV.out.below hb2, hOf.src (hrB.out.cm (Cm.below hbw)) hle hfew hsmB.out, by simp, by omega⟩⟩, hOf, by omega, by omega, hw1.out.below hb6, hw2.out.below hb6⟩
                have hal : ∀ k, (Value.slice A1 kn.length c1).ownBlock = some k → k < w6.heap.size := fun k hk => by have := Kd.R_lt hO1.out.row k hk; have := hB6.out.size; omega
                replace h70 := Lib.hid h70
                replace hal := Lib.hid hal
                have hs67 : w6.heap.size ≤ w7.heap.size := hB7.out.size
                clear hV hB7 hB6 hO1 hO hZ hW hw1 hw2 hYo hOo
                go_loopg [14] (bl.length + 1) (fun gh v14 wr => ∃ (i : Nat) (kn1 : List Bool), i ≤ bl.length + 1 ∧ gh = bl.length + 1 - i ∧ v14 = .int .i64 i ∧ AgMid W2 wr (w6.heap.size + 1) w6.heap.size w7.heap.size s1 i AB A1 cB c1 kn.length bl kn1 v1 v2 seen puts)
                case atStart => exact ⟨0, kn, by omega, rfl, rfl, h70.out⟩
                case round =>
                  obtain ⟨i, kn1, hi, hgi, rfl, hX⟩ := hrel
                  clear h70
                  obtain ⟨⟨n, f, hn, hA⟩, hO, hcnt, hlen1, hw, hp⟩ := hX
                  have hcm := Cm.below hA.bel
                  have bc := hcm _ _ b2
                  have pc := hcm _ _ p2
                  have hil : i ≤ bl.length := by omega
                  have hbq : Below wr.heap.size wr (wr.alloc (.cells #[.slice none 0 0] 22)) := (Below.refl _ _).alloc (Nat.le_refl _) _
                  have hAq := hA.ofBelow hbq
                  have cq := Cm.below hbq
                  have hbl : (wr.alloc (.cells #[.slice none 0 0] 22)).heap[wr.heap.size]? = some (.cells #[.slice none 0 0] 22 (0, 0)) := blk_new' rfl _ _
                  have lg : w7.heap.size < wr.heap.size := cell_lt hA.box
                  have lv : w6.heap.size + 1 < wr.heap.size := cell_lt hA.vw.map
                  have hblk := hAq.vw.own.blk
                  have bx := hAq.box
                  have hwr := hA.bel.size
                  have pq := cq _ _ pc
                  have hsA := hA.src
                  have cS := hAq.seen2 (q := wr.heap.size) 18 #[.pointer (some ⟨w7.heap.size, 0, none⟩), .pointer (some ⟨w.heap.size + 1, 0, none⟩), .pointer (some ⟨wr.heap.size, 0, none⟩)] (playF (getF bl kn1) ds (fun _ => none) []) en18 (fun W hW hT => clo18 hW (hT.cm hblk _ _ pq) (hC2.out.cm (Cm.below hW.bel)) hT2.out (hT.cm hblk _ _ (cell_blk hbl)) ((hT.frozen hblk (cell_blk hbl)).trans (frozen_blk hbl))) hbl (by omega) (by omega) (by omega) (fun w' ht => hsA.cm (ht.cmq hblk hbq (Nat.le_refl _)))
                  have hOq := hO.below hbq
                  replace hA := Lib.hid hA
                  replace hAq := Lib.hid hAq
                  replace hO := Lib.hid hO
                  replace hOq := Lib.hid hOq
                  replace hblk := Lib.hid hblk
                  replace hw := Lib.hid hw
                  replace hp := Lib.hid hp
                  replace hbq := Lib.hid hbq
                  replace hbl := Lib.hid hbl
                  clear hcm cq hsA
                  cases hr1 : playF (getF bl kn1) ds (fun _ => none) [] with
                  | done f1 seen1 =>
                    rw [hr1] at cS
                    unfold SeenPost at cS
                    have heq := play_mono (s2 := getF bl (List.replicate bl.length true)) (fun k b => getF_all) ds _ _ hr1
                    rw [hr.out] at heq
                    injection heq with e1 e2
                    subst e1 e2
                    have hsl := len_play ds _ _ hr1
                    simp only [List.length_nil] at hsl
                    replace hr1 := Lib.hid hr1
                    go_wp2_with (first
                      | (go_at_call 11; refine cS.mono ?_; clear cS; rintro e w8 ⟨rfl, ⟨v, hv, ok5, hR5⟩, ⟨n5, hn5, hA5⟩, ht5⟩; have b8 := hA5.box; have cL := Lists_same w8 v v1 seen (Kd.R_reads hR5) (hw.out.cmn (CmN.of (ht5.cmq hblk.out hbq.out (Nat.le_refl _)))) (by omega); have hp8 := hp.out.cmn (CmN.of (ht5.cmq hblk.out hbq.out (Nat.le_refl _))); replace hp8 := Lib.hid hp8; replace hA5 := Lib.hid hA5; replace ht5 := Lib.hid ht5; clear hR5 bx)
                      | (go_at_call 17; refine cL.mono ?_; clear cL; rintro e w9 ⟨rfl, hD9⟩; have hA9 := hA5.out.ofBelow hD9.below; have b9 := hA9.box; have cC := hA9.changesR (by omega); have hp9 := hp8.out.below hD9.below; replace hp9 := Lib.hid hp9; replace hA9 := Lib.hid hA9; replace hD9 := Lib.hid hD9; clear b8)
                      | (go_at_call 16; refine cC.mono ?_; clear cC; rintro e wA ⟨⟨v7, ks, rfl, hK, hR7⟩, hAA, hBA⟩; rw [← chS_put hK hin.out] at hR7; have cP := Puts_same wA v7 v2 (Vw.chS puts []) hR7 (hp9.out.below hBA) (by have := len_chS puts []; simp only [List.length_nil] at this; omega); replace hAA := Lib.hid hAA; replace hBA := Lib.hid hBA; clear hR7 hK)
                      | (go_at_call 15; refine cP.mono ?_; clear cP; rintro e wB ⟨rfl, hDB⟩; have hAB := hAA.out.ofBelow hDB.below; replace hAB := Lib.hid hAB; replace hDB := Lib.hid hDB))
                    go_ret
                    exact ⟨rfl, hBw.out.trans (hAB.out.bel.mono hBw.out.size)⟩
                  | wants k f1 =>
                    rw [hr1] at cS
                    unfold SeenPost at cS
                    obtain ⟨⟨d, hd, hdk⟩, hun⟩ := play_wants ds _ _ hr1
                    have hk01 := hpre.out d hd
                    rw [hdk] at hk01
                    have hkf := getF_unknown hun hk01.1 hk01.2
                    obtain ⟨kk, rfl⟩ : ∃ kk : Nat, k = (kk : Int) := ⟨k.toNat, by omega⟩
                    rw [Int.toNat_natCast] at hkf
                    have hkl1 : kk < kn1.length := by omega
                    have hle := hlen.out
                    have hkk : (kk : Int) < (kn.length : Int) := by omega
                    replace hr1 := Lib.hid hr1
                    replace hle := Lib.hid hle
                    clear hd hdk hun
                    go_wp2_with (go_at_call 11; refine cS.mono ?_; clear cS; rintro e w8 ⟨rfl, hA5, ht5⟩; have hO8 := hOq.out.tchS ht5 hblk.out ⟨_, hbl.out⟩; have hw8 := hw.out.cmn (CmN.of (ht5.cmq hblk.out hbq.out (Nat.le_refl _))); have hp8 := hp.out.cmn (CmN.of (ht5.cmq hblk.out hbq.out (Nat.le_refl _))); obtain ⟨ga, rfl, hga, hty, hcg, hzg, hN⟩ := hO8.at' hkl1; rw [hkf] at hcg; have s8 := hO8.cells.2; replace hN := Lib.hid hN; replace hO8 := Lib.hid hO8; replace hw8 := Lib.hid hw8; replace hp8 := Lib.hid hp8; replace hA5 := Lib.hid hA5; replace ht5 := Lib.hid ht5; replace hty := Lib.hid hty; clear bx)
                    go_roundg (bl.length + 1 - (i + 1))
                    case measure => omega
                    case rel =>
                      have hgl : ga < w6.heap.size := hal.out ga rfl
                      have hbs := below_set1 (i := kk) hA5.out.bel hga (.bool true)
                      have hct := count_set hkl1 hkf
                      refine ⟨i + 1, kn1.set kk true, by omega, rfl, by go_num, ⟨0, _, by omega, ⟨hbs, hA5.out.vw.setAt hty.out (by omega) _, hN.out.src (hrB.out.cm (Cm.below hbs)) (by rw [List.length_set]; exact hlen1.symm) hfew hsmB.out, ?_, hA5.out.low⟩⟩, hN.out, by omega, by rw [List.length_set]; exact hlen1, hw8.out.cmn (CmN.set hcg _), hp8.out.cmn (CmN.set hcg _)⟩
                      exact (World.cell?_of_block (w := w8) (Below.heap_setCell _ _ _ _ (by show w7.heap.size ≠ ga; omega))).trans hA5.out.box
end Go.Proofs.Ythaipkfaaojppaa.Vw
