/- The document's Run, walked. -/
import Derived.Test.YthaipkfaaojppaaCh
import Derived.Test.YthaipkfaaojppaaV9
namespace Go.Proofs.Ythaipkfaaojppaa.Vw
open Go.RowKit Go.Proofs.YthaipkfaaojppaaW.PrintWords Go.Proofs.YthaipkfaaojppaaW.PrintLast Go.Proofs.YthaipkfaaojppaaW.PrintMore
open Go.Proofs.Ythaipkfaaojppaa.PViewRuns (S59 z59 k59 k59_mk k59_open k59_openF info59)
set_option linter.unusedVariables false
theorem fk_bytes {w W : World} {v : Value} {bs : List Int} (h : RdB w v bs) (hb : Below w.heap.size w W) : Kd.FK kB W (fun k => k < w.heap.size) bs [v] := fun W' hW => by
  refine RdB.kd (h.cm fun p u e => ?_)
  have hlt := cell_lt e
  have h1 := hb.block p.block hlt
  exact (World.cell?_of_block (w := w) ((hW p.block hlt (Nat.lt_of_lt_of_le hlt hb.size)).trans h1)).trans e
theorem fk_put {w W : World} {v : Value} {bs : List Int} (s : Int) (h : RdB w v bs) (hb : Below w.heap.size w W) : Kd.FK k59 W (fun k => k < w.heap.size) ⟨s, bs⟩ [.int .i64 s, v] := fun W' hW => by
  obtain ⟨A, c, e, hl, hC⟩ := fk_bytes h hb W' hW
  injection e with e _
  subst e
  exact k59_mk W' ⟨s, bs⟩ hl hC
/-- In the midst of the document's Run. -/
structure RunMid (w wr : World) (src : Int → Option (List Int)) (ds : List DoR) (r : Res) (k : Nat) (v8 v9 : Value) (seen : List (List Int)) (puts : List S59) : Prop where
  eq : r = playF src (ds.drop k) (fQ puts) seen
  bel : Below w.heap.size w wr
  hs : Kd.N kB 44 wr w.heap.size (fun k => True ∧ some k ≠ v9.ownBlock) v8 seen
  hp : Kd.N k59 59 wr w.heap.size (fun k => True ∧ some k ≠ v8.ownBlock) v9 puts
  ls : seen.length ≤ k
  lp : puts.length ≤ k
  inp : ∀ p ∈ puts, In64 p.f0
theorem RunMid.below {w wr wr1 : World} {src : Int → Option (List Int)} {ds : List DoR} {r : Res} {k : Nat} {v8 v9 : Value} {seen : List (List Int)} {puts : List S59} (h : RunMid w wr src ds r k v8 v9 seen puts) (b : Below wr.heap.size wr wr1) : RunMid w wr1 src ds r k v8 v9 seen puts :=
  ⟨h.eq, h.bel.trans (b.mono h.bel.size), Kd.N_below h.hs b, Kd.N_below h.hp b, h.ls, h.lp, h.inp⟩
/-- How it ends. -/
def RunPost (w w' : World) : Res → Ending → Prop
  | .done f' seen, e => ∃ v1 v2 puts, e = .returned (.tuple #[v1, v2, .int .i64 0, .bool true]) ∧ f' = fQ puts ∧ (∀ p ∈ puts, In64 p.f0) ∧ puts.length ≤ 100 ∧ (∃ ok, Kd.N kB 44 w' w.heap.size ok v1 seen) ∧ ∃ ok, Kd.N k59 59 w' w.heap.size ok v2 (chS puts [])
  | .wants k f', e => ∃ v1, e = .returned (.tuple #[v1, .slice none 0 0, .int .i64 k, .bool false])
theorem results_tmp4 {fn : Func} {t u v x : Tmp} (h : fn.results = #[.tmp t, .tmp u, .tmp v, .tmp x]) (tmps : Array Value) (P : Program) (w : World) :
    (results fn tmps).run P w = .ok (.tuple #[tmps.getD t undef, tmps.getD u undef, tmps.getD v undef, tmps.getD x undef]) w := by
  simp [results, h]
set_option maxRecDepth 100000 in
set_option maxHeartbeats 4000000 in
/-- Get, where the source has been since an elder world: what it gives reads there. -/
theorem Get_since (w0 w : World) (s : Nat) (bl : List (List Int)) (kn : List Bool) (k : Int) (bs : List Int) (hS : Src w0 s bl kn) (hcm : Cm w0 w) (h : getF bl kn k = some bs) :
    Calls Try.prog 10 #[.pointer (some ⟨s, 0, none⟩), .int .i64 k] w fun e w' => (∃ v, e = .returned (.tuple #[v, .bool true]) ∧ RdB w0 v bs) ∧ w' = w := by
  unfold getF at h
  split at h
  · rename_i hk
    obtain ⟨k0, k1, k2⟩ := hk
    injection h with h
    obtain ⟨i, rfl⟩ : ∃ i : Nat, k = (i : Int) := ⟨k.toNat, by omega⟩
    rw [Int.toNat_natCast] at k2 h
    have hi : i < bl.length := by omega
    have hl := hS.len
    have hi' : i < kn.length := by omega
    obtain ⟨A, c0, h1, h2⟩ := hS.blocks
    obtain ⟨A', c1, h3, h4⟩ := hS.known
    obtain ⟨x, v, rfl, hc, hv⟩ := h2 i hi
    obtain ⟨x', rfl, hc'⟩ := h4 i hi'
    rw [h] at hv
    rw [k2] at hc'
    replace h1 := hcm _ _ h1
    replace h3 := hcm _ _ h3
    replace hc := hcm _ _ hc
    replace hc' := hcm _ _ hc'
    replace hv := Lib.hid hv
    have hlt : (i : Int) < (kn.length : Int) := by omega
    clear h2 h4 hS hl h k2 hcm
    go_enter Try.func10, Try.ntmps10
    go_wp2_with fail
    go_ret2
    exact ⟨⟨_, rfl, hv.out⟩, rfl⟩
  · cases h
theorem Get_any (w0 w : World) (s : Nat) (bl : List (List Int)) (kn : List Bool) (k : Int) (hS : Src w0 s bl kn) (hcm : Cm w0 w) :
    Calls Try.prog 10 #[.pointer (some ⟨s, 0, none⟩), .int .i64 k] w fun e w' => (∃ v, e = .returned (.tuple #[v, .bool (getF bl kn k).isSome]) ∧ ∀ b, getF bl kn k = some b → RdB w0 v b) ∧ w' = w := by
  cases h : getF bl kn k with
  | some b => exact (Get_since w0 w s bl kn k b hS hcm h).mono fun e w' ⟨⟨v, q1, q2⟩, q3⟩ => ⟨⟨v, q1, fun b' e' => by injection e' with e'; rw [← e']; exact q2⟩, q3⟩
  | none => exact (Get_none w s bl kn k (hS.cm hcm) h).mono fun e w' ⟨q1, q3⟩ => ⟨⟨_, q1, fun b' e' => by cases e'⟩, q3⟩
theorem seeF_next {src : Int → Option (List Int)} {puts : List S59} {j : Nat} {p : S59} (h : puts[j]? = some p) (sl : Int) : seeF src (fQ (puts.take (j + 1))) sl = if p.f0 = sl then some p.f1 else seeF src (fQ (puts.take j)) sl := by
  rw [List.take_add_one, h]
  show seeF src (fQ (puts.take j ++ [p])) sl = _
  rw [fQ_snoc]
  unfold seeF updO
  by_cases e : sl = p.f0
  · rw [if_pos e, if_pos e.symm]
  · rw [if_neg e, if_neg (fun h => e h.symm)]
theorem put_elem {wx : World} {B : Nat} {ok : Nat → Prop} {A : Option Addr} {n c : Nat} {puts : List S59} (h : Kd.N k59 59 wx B ok (.slice A n c) puts) {j : Nat} {p : S59} (hp : puts[j]? = some p) :
    ∃ g A1 c1, A = some ⟨g, 0, none⟩ ∧ wx.cell? ⟨g, j * 2, none⟩ = some (.int .i64 p.f0) ∧ wx.cell? ⟨g, j * 2 + 1, none⟩ = some (.slice A1 p.f1.length c1) ∧ Kd.FK kB wx (fun k => ok k ∧ some k ≠ (Value.slice A n c).ownBlock) p.f1 [.slice A1 p.f1.length c1] := by
  have hj := (List.getElem?_eq_some_iff.1 hp).1
  obtain ⟨g, cap, e, _⟩ := Kd.N_form h (by omega)
  injection e with e1 e2 e3
  subst e1 e2 e3
  obtain ⟨cc, hcl, hF, hc, _⟩ := Kd.N_elem h z59 (j : Int) (by omega) (by omega)
  rw [Int.toNat_natCast, List.getD_eq_getElem?_getD, hp, Option.getD_some] at hF
  rw [Int.toNat_natCast] at hc
  obtain ⟨A1, c1, rfl, hl, hFF⟩ := k59_openF hF
  refine ⟨g, A1, c1, rfl, hc 0 _ rfl, hc 1 _ rfl, fun W' hW => ⟨A1, c1, rfl, hl, hFF W' (fun k hk hlt => hW k ⟨hk.1, fun e => hk.2 (by simpa [Value.ownBlock] using e)⟩ hlt)⟩⟩
set_option maxRecDepth 100000 in
set_option maxHeartbeats 8000000 in
theorem Run_walk (w : World) (s : Nat) (bl : List (List Int)) (kn : List Bool) (A : Option Addr) (c : Nat) (ds : List DoR) (hS : Src w s bl kn) (hC : Scr w A ds) (hT : Tame ds) :
    Calls Try.prog 14 #[.pointer (some ⟨s, 0, none⟩), .slice A ds.length c] w fun e w' => RunPost w w' (playF (getF bl kn) ds (fun _ => none) []) e ∧ Below w.heap.size w w' := by
  obtain ⟨r, hr⟩ : ∃ r, r = playF (getF bl kn) ds (fun _ => none) [] := ⟨_, rfl⟩
  rw [← hr]
  have h0 : RunMid w w (getF bl kn) ds r 0 (.slice none 0 0) (.slice none 0 0) [] [] := ⟨hr, Below.refl _ _, Kd.N_nil _ _ _ _ _, Kd.N_nil _ _ _ _ _, Nat.le_refl _, Nat.le_refl _, by simp⟩
  have few := hT.few
  replace h0 := Lib.hid h0
  replace hS := Lib.hid hS
  replace hC := Lib.hid hC
  replace hT := Lib.hid hT
  clear hr
  go_enter Try.func14, Try.ntmps14
  go_wp2_with fail
  go_loopg [8, 9, 10] ds.length (fun gh v8 v9 i wr => ∃ (k : Nat) (seen : List (List Int)) (puts : List S59), k ≤ ds.length ∧ gh = ds.length - k ∧ i = .int .i64 k ∧ RunMid w wr (getF bl kn) ds r k v8 v9 seen puts)
  case atStart => exact ⟨0, _, _, by omega, rfl, rfl, h0.out⟩
  case round =>
    obtain ⟨k, seen, puts, hk, hgk, rfl, hM⟩ := hrel
    clear h0
    by_cases hlt : k < ds.length
    · obtain ⟨d, hd⟩ : ∃ d, ds[k]? = some d := ⟨_, List.getElem?_eq_getElem hlt⟩
      have hdm := List.mem_of_getElem? hd
      have hin := hT.out.in64 d hdm
      have hcm := Cm.below hM.bel
      obtain ⟨x, vb, rfl, c0, c1, c2, hRb⟩ := hC.out k d hd
      have e0 := hcm _ _ c0
      have e1 := hcm _ _ c1
      have e2 := hcm _ _ c2
      have hdrop : ds.drop k = d :: ds.drop (k + 1) := by
        rw [List.drop_eq_getElem_cons hlt]
        congr 1
        have := List.getElem?_eq_getElem hlt
        rw [hd] at this
        injection this with this
        exact this.symm
      have heq := hM.eq
      rw [hdrop] at heq
      unfold playF at heq
      obtain ⟨pu, sl, bs⟩ := d
      dsimp only at hin e0 e1 e2 hRb heq
      obtain ⟨Ab, cb, rfl, _, _⟩ := hRb.slice
      have hsr := hM.bel.size
      have hls := hM.ls
      have hlp := hM.lp
      have b46 : Below wr.heap.size wr (wr.alloc (.cells #[.bool pu, .int .i64 sl, .slice Ab bs.length cb] 46)) := (Below.refl _ _).alloc (Nat.le_refl _) _
      have hM1 := hM.below b46
      replace hin := Lib.hid hin
      cases pu with
      | true =>
        rw [if_pos rfl] at heq
        have hfp := fk_put sl hRb hM1.bel
        have hokp : ∀ i, i < w.heap.size → (True ∧ some i ≠ (u8 : Value).ownBlock) ∧ some i ≠ (u9 : Value).ownBlock := fun i hi => ⟨⟨trivial, fun e => by have := Kd.N_base hM1.hs i e.symm; omega⟩, fun e => by have := Kd.N_base hM1.hp i e.symm; omega⟩
        have hfr : ∀ i, (wr.alloc (.cells #[.bool true, .int .i64 sl, .slice Ab bs.length cb] 46)).heap.size ≤ i → True ∧ some i ≠ (u8 : Value).ownBlock := fun i hi => ⟨trivial, fun e => by have := Kd.N_lt hM1.hs i e.symm; omega⟩
        have hroom : (puts.length + 1) * 32 ≤ 140737488355328 := by omega
        have hsz1 := hM1.bel.size
        have hz1 : (wr.alloc (.cells #[.bool true, .int .i64 sl, .slice Ab bs.length cb] 46)).heap.size = wr.heap.size + 1 := by simp
        replace heq := Lib.hid heq
        replace hM := Lib.hid hM
        replace hM1 := Lib.hid hM1
        replace hRb := Lib.hid hRb
        replace hfp := Lib.hid hfp
        replace hokp := Lib.hid hokp
        replace hfr := Lib.hid hfr
        replace hroom := Lib.hid hroom
        replace hsz1 := Lib.hid hsz1
        replace b46 := Lib.hid b46
        replace hz1 := Lib.hid hz1
        clear hd hdm hdrop hcm c0 c1 c2
        go_wp2_with (at_builtin; refine Kd.N_append k59 (w0 := (wr.alloc (.cells #[.bool true, .int .i64 sl, .slice Ab bs.length cb] 46))) w.heap.size rfl (.tmp 27) (.tmp 33) 37 59 (.agg #[(.int .i64 0), (.slice none 0 0)]) 32 rfl Try.underlying37 info59 rfl (by decide) (by decide) _ puts (⟨sl, bs⟩ : S59) [.int .i64 sl, .slice Ab bs.length cb] (fun i => True ∧ some i ≠ (u8 : Value).ownBlock) (fun i => i < w.heap.size) rfl (by rw [hz1.out]; rfl) hfp.out hokp.out hfr.out hM1.out.hp (Below.refl _ _) hsz1.out hroom.out ?_; intro v3 w3 hN3 hb3 hg3 hat3; have hM3 : RunMid w w3 (getF bl kn) ds r (k + 1) u8 v3 seen (puts ++ [⟨sl, bs⟩]) := ⟨by rw [fQ_snoc]; exact heq.out, hM1.out.bel.trans hb3, Kd.N_after hM1.out.hs hg3 hat3, hN3, by omega, by simp; omega, fun p hp => by rcases List.mem_append.1 hp with hp | hp; exact hM1.out.inp p hp; simp at hp; rw [hp]; exact hin.out⟩; clear hN3 hb3 hg3 hat3; replace hM3 := Lib.hid hM3)
        go_roundg (ds.length - (k + 1))
        case measure => omega
        case rel => exact ⟨k + 1, _, _, by omega, rfl, by go_num, hM3.out⟩
      | false =>
        rw [if_neg (by decide)] at heq
        have cG := Get_any w (wr.alloc (.cells #[.bool false, .int .i64 sl, .slice Ab bs.length cb] 46)) s bl kn sl hS.out (Cm.below hM1.bel)
        obtain ⟨A9, c9, rfl⟩ := Kd.N_slice hM1.hp
        have hFK : ∀ v b, RdB w v b → Kd.FK kB (wr.alloc (.cells #[.bool false, .int .i64 sl, .slice Ab bs.length cb] 46)) (fun i => (True ∧ some i ≠ (u8 : Value).ownBlock) ∧ some i ≠ (Value.slice A9 puts.length c9).ownBlock) b [v] := fun v b hv => Kd.FK_mono (fk_bytes hv hM1.bel) (fun i hi => ⟨⟨trivial, fun e => by have := Kd.N_base hM1.hs i e.symm; omega⟩, fun e => by have := Kd.N_base hM1.hp i e.symm; omega⟩)
        have hbx : (wr.alloc (.cells #[.bool false, .int .i64 sl, .slice Ab bs.length cb] 46)).cell? ⟨wr.heap.size, 1, none⟩ = some (.int .i64 sl) := by simp
        obtain ⟨wy, hwy⟩ : ∃ wy, wy = wr.alloc (.cells #[.bool false, .int .i64 sl, .slice Ab bs.length cb] 46) := ⟨_, rfl⟩
        rw [← hwy] at hM1 cG hFK hbx b46
        replace heq := Lib.hid heq
        replace hM := Lib.hid hM
        replace hM1 := Lib.hid hM1
        replace hFK := Lib.hid hFK
        replace hRb := Lib.hid hRb
        replace b46 := Lib.hid b46
        replace hwy := Lib.hid hwy
        clear hd hdm hdrop hcm c0 c1 c2
        go_wp2_with (go_at_call 10; rw [← hwy.out]; refine cG.mono ?_; clear cG; rintro e w1 ⟨⟨v, rfl, hv⟩, rfl⟩; replace hv := Lib.hid hv)
        go_loopg [12, 13, 14] puts.length (fun gh v12 v13 v14 wx => ∃ j : Nat, j ≤ puts.length ∧ gh = puts.length - j ∧ v14 = .int .i64 j ∧ v13 = .bool (seeF (getF bl kn) (fQ (puts.take j)) sl).isSome ∧
          (∀ b, seeF (getF bl kn) (fQ (puts.take j)) sl = some b → Kd.FK kB wx (fun i => (True ∧ some i ≠ (u8 : Value).ownBlock) ∧ some i ≠ (Value.slice A9 puts.length c9).ownBlock) b [v12]) ∧ RunMid w wx (getF bl kn) ds r k u8 (Value.slice A9 puts.length c9) seen puts ∧ wx.cell? ⟨wr.heap.size, 1, none⟩ = some (.int .i64 sl))
        case atStart => exact ⟨0, by omega, rfl, rfl, rfl, fun b hb => hFK.out _ _ (hv.out b hb), hM1.out, hbx⟩
        case round =>
          obtain ⟨j, hj, hgj, rfl, rfl, hv12, hX, hb1⟩ := hrel
          clear hM1 hFK
          by_cases hjl : j < puts.length
          · obtain ⟨p, hp⟩ : ∃ p, puts[j]? = some p := ⟨_, List.getElem?_eq_getElem hjl⟩
            have hnx := seeF_next (src := getF bl kn) hp sl
            obtain ⟨g, A1, c1, hA, k0, k1, hF⟩ := put_elem hX.hp hp
            subst hA
            obtain ⟨p0, p1⟩ := p
            dsimp only at k0 k1 hF hnx
            obtain ⟨o, ho⟩ : ∃ o, o = seeF (getF bl kn) (fQ (puts.take j)) sl := ⟨_, rfl⟩
            rw [← ho] at hv12 hnx
            simp only [← ho]
            replace hX := Lib.hid hX
            replace hF := Lib.hid hF
            replace hv12 := Lib.hid hv12
            replace hnx := Lib.hid hnx
            clear ho hp
            by_cases e : p0 = sl
            · subst e
              go_wp2_with fail
              go_quiet (fail)
              go_wp2_with fail
              go_roundg (puts.length - (j + 1))
              case measure => omega
              case rel =>
                refine ⟨j + 1, by omega, rfl, by go_num, by rw [hnx.out]; simp, fun b hb => ?_, hX.out.below (Drawn0.mk ⟨nq, rfl⟩ : Drawn0 _ _).below, hb1⟩
                rw [hnx.out] at hb
                have hb : p1 = b := by simpa using hb
                subst hb
                exact Kd.FK_step hF.out (fun _ _ _ => rfl)
            · have e1 : (p0 == sl) = false := by simpa using e
              go_wp2_with fail
              go_quiet (fail)
              go_wp2_with fail
              go_roundg (puts.length - (j + 1))
              case measure => omega
              case rel =>
                refine ⟨j + 1, by omega, rfl, by go_num, by rw [hnx.out, if_neg e], fun b hb => ?_, hX.out.below (Drawn0.mk ⟨nq, rfl⟩ : Drawn0 _ _).below, hb1⟩
                rw [hnx.out, if_neg e] at hb
                exact Kd.FK_step (hv12.out b hb) (fun _ _ _ => rfl)
          · obtain rfl : j = puts.length := by omega
            rw [List.take_length] at hv12 ⊢
            cases ho : seeF (getF bl kn) (fQ puts) sl with
            | none =>
              have heq' := heq.out
              rw [ho] at heq'
              dsimp only at heq'
              have hbel := hX.bel
              replace hbel := Lib.hid hbel
              replace hX := Lib.hid hX
              replace heq' := Lib.hid heq'
              clear hv12 ho heq
              go_wp2_with fail
              go_quiet (fail)
              go_wp2_with fail
              (try simp only [Exit.inBlock, Exit.then])
              refine bodyPost_ret (results_tmp4 rfl _ _ _) rfl ?_
              rw [heq'.out]
              exact ⟨⟨_, rfl⟩, hbel.out.trans ((Drawn0.mk ⟨nq, rfl⟩ : Drawn0 _ _).below.mono hbel.out.size)⟩
            | some b =>
              have heq' := heq.out
              rw [ho] at heq'
              dsimp only at heq'
              have hF := hv12 b ho
              obtain ⟨A12, c12, e12, _, _⟩ := Kd.FK_now hF
              injection e12 with e12 _
              subst e12
              have hsz := hX.bel.size
              have hfr : ∀ i, wr.heap.size ≤ i → True ∧ some i ≠ (Value.slice A9 puts.length c9).ownBlock := fun i hi => ⟨trivial, fun e => by have := Kd.N_lt hX.hp i e.symm; omega⟩
              replace hX := Lib.hid hX
              replace hF := Lib.hid hF
              replace hfr := Lib.hid hfr
              replace heq' := Lib.hid heq'
              clear hv12 ho heq
              go_wp2_with (at_builtin; refine Kd.N_append kB (w0 := wr) w.heap.size rfl (.tmp 66) (.tmp 68) 22 44 (.slice none 0 0) 24 rfl Try.underlying22 info44 rfl (by decide) (by decide) _ seen b [.slice A12 b.length c12] (fun i => True ∧ some i ≠ (Value.slice A9 puts.length c9).ownBlock) _ rfl rfl hF.out (fun i h => ⟨⟨trivial, h.2⟩, h.1.2⟩) hfr.out hX.out.hs (Below.refl _ _) hsz (by omega) ?_; intro v3 w3 hN3 hb3 hg3 hat3; have hM3 : RunMid w w3 (getF bl kn) ds r (k + 1) v3 (Value.slice A9 puts.length c9) (seen ++ [b]) puts := ⟨heq'.out, hX.out.bel.trans hb3, hN3, Kd.N_after hX.out.hp hg3 hat3, by simp; omega, by omega, hX.out.inp⟩; clear hN3 hb3 hg3 hat3; replace hM3 := Lib.hid hM3)
              go_roundg (ds.length - (k + 1))
              case measure => omega
              case rel => exact ⟨k + 1, _, _, by omega, rfl, by go_num, hM3.out⟩
    · have heq := hM.eq
      rw [List.drop_eq_nil_of_le (by omega)] at heq
      unfold playF at heq
      subst heq
      have hlp := hM.lp
      obtain ⟨A9, c9, rfl⟩ := Kd.N_slice hM.hp
      obtain ⟨kf, hkf⟩ := changes_f puts (by omega)
      have cC := Go.Proofs.Ythaipkfaaojppaa.PViewRuns.oublietteref12_Changes.calls kf _ A9 c9 puts (chS puts []) wr (Kd.N_V hM.hp) hkf
      replace hM := Lib.hid hM
      clear hkf
      go_wp2_with (go_at_call 28; refine cC.mono ?_; clear cC; rintro e w1 ⟨v1, rfl, hN, hB⟩; replace hN := Lib.hid hN; replace hB := Lib.hid hB)
      (try simp only [Exit.inBlock, Exit.then])
      refine bodyPost_ret (results_tmp4 rfl _ _ _) rfl ?_
      have hM' := hM.out
      exact ⟨⟨_, _, puts, rfl, rfl, hM'.inp, by omega, ⟨_, Kd.N_below hM'.hs hB.out⟩, ⟨_, Kd.N_lower hN.out hM'.bel.size⟩⟩, hM'.bel.trans (hB.out.mono hM'.bel.size)⟩
end Go.Proofs.Ythaipkfaaojppaa.Vw
