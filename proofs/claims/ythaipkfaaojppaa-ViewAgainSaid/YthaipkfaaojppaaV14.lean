/- ViewOwn's closure, walked. -/
import Derived.Test.YthaipkfaaojppaaV13
import Derived.Deep.RegionHeld3
namespace Go.Proofs.Ythaipkfaaojppaa.Vw
open Go.RowKit Go.Proofs.YthaipkfaaojppaaW.PrintWords Go.Proofs.YthaipkfaaojppaaW.PrintLast Go.Proofs.YthaipkfaaojppaaW.PrintMore
set_option linter.unusedVariables false
theorem en19 : ∀ (args : Array Value) (w : World), (callFunc 19 args).run Try.prog w = .ok (.enter 19 args) w := enters_of Try.func19 (by kernel_rfl) rfl
/-- What the first n puts leave. -/
def fP (ds : List DoR) : Nat → Int → Option (List Int)
  | 0 => fun _ => none
  | n + 1 => match ds[n]? with
    | some d => updO (fP ds n) d.slot d.bs
    | none => fP ds n
theorem fP_succ {ds : List DoR} {n : Nat} {d : DoR} (h : ds[n]? = some d) : fP ds (n + 1) = updO (fP ds n) d.slot d.bs := by
  show (match ds[n]? with | some d => updO (fP ds n) d.slot d.bs | none => fP ds n) = _
  rw [h]
theorem blk_set {w : World} {R : Nat} {u v : Value} (h : w.heap[R]? = some (.cells #[u] 4 (0, 0))) : (w.setCell ⟨R, 0, none⟩ v).heap[R]? = some (.cells #[v] 4 (0, 0)) := by
  simp [World.setCell, Array.getElem?_modify, h]
structure OwnMid (w W wr : World) (vp M g s n R : Nat) (f : Int → Option (List Int)) (bl : List (List Int)) (kn : List Bool) : Prop where
  st : At w wr vp M g s n f bl kn
  rb : wr.heap[R]? = some (.cells #[.bool true] 4 (0, 0))
  tch : TchS (fun i => i = M ∨ i = R) W wr
section
variable {w W wr wr1 : World} {vp M g s n n1 R : Nat} {f f1 : Int → Option (List Int)} {bl : List (List Int)} {kn : List Bool} {ds : List DoR} {A : Option Addr} {c p : Nat}
theorem OwnMid.rc (h : OwnMid w W wr vp M g s n R f bl kn) : wr.cell? ⟨R, 0, none⟩ = some (.bool true) := by simp [World.cell?, h.rb]
theorem OwnMid.rz (h : OwnMid w W wr vp M g s n R f bl kn) : wr.frozen? ⟨R, 0, none⟩ = false := by simp [World.frozen?, h.rb]
theorem OwnMid.lt (h : OwnMid w W wr vp M g s n R f bl kn) : R < wr.heap.size := (Array.getElem?_eq_some_iff.1 h.rb).1
theorem OwnMid.ne (h : OwnMid w W wr vp M g s n R f bl kn) : R ≠ M := by
  rintro rfl
  obtain ⟨es, clock, hb⟩ := h.st.vw.own.blk
  rw [h.rb] at hb
  simp at hb
theorem OwnMid.put (h : OwnMid w W wr vp M g s n R f bl kn) (t : Tch M wr wr1) (v : Vw wr1 vp (gv s) M n1 f1) : OwnMid w W wr1 vp M g s n1 R f1 bl kn :=
  ⟨h.st.tch t v, (t.block R h.lt h.ne).trans h.rb, h.tch.trans (TchS.of t (.inl rfl))⟩
theorem OwnMid.below (h : OwnMid w W wr vp M g s n R f bl kn) (b : Below wr.heap.size wr wr1) : OwnMid w W wr1 vp M g s n R f bl kn := h.put (Tch.ofBelow b) (h.st.vw.below b)
theorem OwnMid.set (h : OwnMid w W wr vp M g s n R f bl kn) (hS : Src w s bl kn) (h0 : w.heap.size ≤ R) (hv : R ≠ vp) (hg : R ≠ g) : OwnMid w W (wr.setCell ⟨R, 0, none⟩ (.bool true)) vp M g s n R f bl kn := by
  have keep : ∀ i, i ≠ R → (wr.setCell ⟨R, 0, none⟩ (.bool true)).heap[i]? = wr.heap[i]? := fun i hi => Below.heap_setCell _ _ _ _ hi
  have hsz : (wr.setCell ⟨R, 0, none⟩ (.bool true)).heap.size = wr.heap.size := by simp [World.setCell]
  have t : TchS (fun i => i = M ∨ i = R) wr (wr.setCell ⟨R, 0, none⟩ (.bool true)) := ⟨rfl, rfl, rfl, by rw [hsz]; exact Nat.le_refl _, fun i hi hn => keep i (fun e => hn (.inr e))⟩
  have hb : Below w.heap.size w (wr.setCell ⟨R, 0, none⟩ (.bool true)) := h.st.bel.trans (t.below (fun i hi => by rcases hi with rfl | rfl; exact h.st.low; exact h0) h.st.bel.size)
  have hR := h.rb
  refine ⟨⟨hb, ⟨?_, ?_, h.st.vw.own.move (keep M h.ne.symm) (fun b _ _ hc => keep b (fun e => ?_))⟩, hS.cm (Cm.below hb), ?_, h.st.low⟩, blk_set h.rb, h.tch.trans t⟩
  · exact (World.cell?_of_block (w := wr) (keep vp hv.symm)).trans h.st.vw.get
  · exact (World.cell?_of_block (w := wr) (keep vp hv.symm)).trans h.st.vw.map
  · obtain ⟨cells, hc⟩ := hc
    rw [e, hR] at hc
    simp at hc
  · exact (World.cell?_of_block (w := wr) (keep g hg.symm)).trans h.st.box
theorem Bytes_same (w : World) (v u : Value) (x : List Int) (hv : RdB w v x) (hu : RdB w u x) : Calls Try.prog 21 #[v, u] w fun e w' => e = .returned (.bool true) ∧ Drawn0 w w' := by
  have := Bytes_walk w v u x x hv hu
  rw [decide_eq_true rfl] at this
  exact this
theorem max_step {f : Nat → Int → Option (List Int)} {h k : Nat} {s : Int} {o : Option (List Int)} (hkh : k ≤ h) (hd : f (max h (k + 1)) s = o) (hh : h ≠ k) : f h s = o := by
  rwa [show max h (k + 1) = h by omega] at hd
theorem setfar {w : World} {p : Addr} {v u : Value} {R : Nat} (h : w.cell? p = some v) (hne : p.block ≠ R) : (w.setCell ⟨R, 0, none⟩ u).cell? p = some v :=
  (World.cell?_of_block (w := w) (Below.heap_setCell _ _ _ _ hne)).trans h
theorem Scr.lt {w : World} {x : Addr} {ds : List DoR} (h : Scr w (some x) ds) {i : Nat} {d : DoR} (hd : ds[i]? = some d) : (x.add (i * 3)).block < w.heap.size := by
  obtain ⟨y, v, e, h0, _⟩ := h i d hd
  injection e with e
  subst e
  exact cell_lt h0
theorem cdr {w : World} {p : Addr} {v : Value} (h : w.cell? p = some v) : w.drew.cell? p = some v := h
theorem OwnMid.see (h : OwnMid w W wr vp M g s n R f bl kn) {k : Int} (hk : In64 k) {b : List Int} (hf : f k = some b) : Calls Try.prog 22 #[.pointer (some ⟨vp, 0, none⟩), .int .i64 k] wr.drew fun e w' => (∃ v, e = .returned v ∧ FrB w' wr.drew.heap.size v b) ∧ Below wr.drew.heap.size wr.drew w' :=
  See_own wr.drew vp s M n f k b h.st.vw.drew hk hf
set_option maxRecDepth 100000 in
set_option maxHeartbeats 8000000 in
theorem clo19 (h : At w W vp M g s 0 (fun _ => none) bl kn) (hp : p < w.heap.size ∧ w.cell? ⟨p, 0, none⟩ = some (.slice A ds.length c)) (hC : Scr w A ds) (hT : Tame ds) (hS : Src w s bl kn) (h0 : w.heap.size ≤ R) (hv : R ≠ vp) (hg : R ≠ g) (hb : W.heap[R]? = some (.cells #[.bool true] 4 (0, 0))) :
    Calls Try.prog 19 #[.pointer (some ⟨p, 0, none⟩), .pointer (some ⟨g, 0, none⟩), .pointer (some ⟨R, 0, none⟩)] W fun e w' => e = .returned (.tuple #[]) ∧ OwnMid w W w' vp M g s ds.length R (fP ds ds.length) bl kn := by
  have hM : OwnMid w W W vp M g s 0 R (fP ds 0) bl kn := ⟨h, hb, TchS.refl _ _⟩
  have few := hT.few
  have hp0 := hp.2
  replace hM := Lib.hid hM
  replace hC := Lib.hid hC
  replace hT := Lib.hid hT
  replace hS := Lib.hid hS
  clear h hb
  go_enter Try.func19, Try.ntmps19
  go_wp2_with fail
  go_loopg [3] ds.length (fun gh i wr => ∃ k : Nat, k ≤ ds.length ∧ gh = ds.length - k ∧ i = .int .i64 k ∧ OwnMid w W wr vp M g s k R (fP ds k) bl kn)
  case atStart => exact ⟨0, by omega, rfl, rfl, hM.out⟩
  case round =>
    obtain ⟨i, hi, hgi, rfl, hX⟩ := hrel
    clear hM
    have hcm := Cm.below hX.st.bel
    have pc := hcm _ _ hp0
    by_cases hlt : i < ds.length
    · obtain ⟨d, hd⟩ : ∃ d, ds[i]? = some d := ⟨_, List.getElem?_eq_getElem hlt⟩
      have hin := hT.out.in64 d (List.mem_of_getElem? hd)
      have hsm := hT.out.small d (List.mem_of_getElem? hd)
      obtain ⟨x, vb, rfl, c0, c1, c2, hRb⟩ := (hC.out.cm hcm) i d hd
      have bx := hX.st.box
      have cP := Put_walk wr.drew vp (gv s) M i (fP ds i) d.slot vb d.bs hX.st.vw.drew (by omega) hin (hRb.cm (Cm.below (Below.refl _ _).drew)) (by omega)
      rw [← fP_succ hd] at cP
      obtain ⟨sl, hsl⟩ : ∃ sl, sl = d.slot := ⟨_, rfl⟩
      rw [← hsl] at c1 cP
      replace hX := Lib.hid hX
      replace hd := Lib.hid hd
      clear hRb hin hsm hsl hcm
      go_wp2_with fail
      go_region_held3 (fun w' => w'.cell? ⟨p, 0, none⟩ = some (.slice (some x) ds.length c) ∧ w'.cell? ⟨(x.add (i * 3)).block, (x.add (i * 3)).off + 1, none⟩ = some (.int .i64 sl) ∧ w'.cell? ⟨(x.add (i * 3)).block, (x.add (i * 3)).off + 2, none⟩ = some vb ∧ w'.cell? ⟨g, 0, none⟩ = some (.pointer (some ⟨vp, 0, none⟩))) (go_keep)
        (first
          | (go_at_call 20; (with_reducible refine cP.mono ?_); clear cP; rintro e w1 ⟨rfl, hV1, hT1⟩; have hX1 := (hX.out.below (Below.refl _ _).drew).put hT1 hV1; have hcm1 := hT1.cm hX.out.st.vw.drew.own.blk; have q0 := hcm1 _ _ (show wr.drew.cell? _ = _ from pc); have q1 := hcm1 _ _ (show wr.drew.cell? _ = _ from c1); have q2 := hcm1 _ _ (show wr.drew.cell? _ = _ from c2); have q3 := hX1.st.box; clear hV1 hT1 hcm1; replace hX1 := Lib.hid hX1))
      clear pc c0 c1 c2 bx q0 q1 q2 q3
      go_wp2_with fail
      go_loopg [4] (i + 1) (fun gh v wx => ∃ k : Nat, k ≤ i + 1 ∧ gh = i + 1 - k ∧ v = .int .i64 k ∧ OwnMid w W wx vp M g s (i + 1) R (fP ds (i + 1)) bl kn)
      case atStart => exact ⟨0, by omega, rfl, rfl, hX1.out⟩
      case round =>
        obtain ⟨k, hk, hgk, rfl, hY⟩ := hrel
        clear hX1 hX
        by_cases hki : k < i + 1
        · obtain ⟨dk, hdk⟩ : ∃ d, ds[k]? = some d := ⟨_, List.getElem?_eq_getElem (by omega)⟩
          have hink := hT.out.in64 dk (List.mem_of_getElem? hdk)
          obtain ⟨sk, hsk⟩ : ∃ sl, sl = dk.slot := ⟨_, rfl⟩
          rw [← hsk] at hink
          replace hY := Lib.hid hY
          replace hink := Lib.hid hink
          go_wp2_with fail
          go_loopg [5, 6] (i + 1 - k) (fun gh v u wx => ∃ (h l : Nat), k ≤ h ∧ h ≤ i + 1 ∧ gh = i + 1 - h ∧ v = .int .i64 l ∧ u = .int .i64 h ∧ l ≤ i ∧ (∃ dl, ds[l]? = some dl ∧ fP ds (max h (k + 1)) sk = some dl.bs) ∧ OwnMid w W wx vp M g s (i + 1) R (fP ds (i + 1)) bl kn)
          case atStart =>
            refine ⟨k, k, by omega, by omega, rfl, rfl, rfl, by omega, ⟨dk, hdk, ?_⟩, hY.out⟩
            · rw [show max k (k + 1) = k + 1 by omega, fP_succ hdk, hsk]
              unfold updO
              rw [if_pos rfl]
          case round =>
            obtain ⟨h, l, hkh, hh, hgh, rfl, rfl, hl, ⟨dl, hdl, hfp⟩, hZ⟩ := hrel
            clear hY
            have hcm := Cm.below hZ.st.bel
            have pc := hcm _ _ hp0
            have hCz := hC.out.cm hcm
            obtain ⟨xk, vk, ek, _, k1, _, _⟩ := hCz k dk hdk
            injection ek with ek
            subst ek
            rw [← hsk] at k1
            by_cases hhi : h < i + 1
            · obtain ⟨dh, hdh⟩ : ∃ d, ds[h]? = some d := ⟨_, List.getElem?_eq_getElem (by omega)⟩
              obtain ⟨xh, vh, eh, _, h1, _, _⟩ := hCz h dh hdh
              injection eh with eh
              subst eh
              obtain ⟨sh, hsh⟩ : ∃ sl, sl = dh.slot := ⟨_, rfl⟩
              rw [← hsh] at h1
              have hnext : fP ds (max (h + 1) (k + 1)) sk = if sk = sh then some dh.bs else some dl.bs := by
                rw [show max (h + 1) (k + 1) = h + 1 by omega, fP_succ hdh, ← hsh]
                unfold updO
                by_cases e : sk = sh
                · rw [if_pos e, if_pos e]
                · rw [if_neg e, if_neg e]
                  have hne : h ≠ k := by
                    rintro rfl
                    rw [hdh] at hdk
                    injection hdk with hdk
                    exact e (by rw [hsk, hsh, hdk])
                  exact max_step hkh hfp hne
              by_cases e : sh = sk
              · subst e
                rw [if_pos rfl] at hnext
                replace hZ := Lib.hid hZ
                replace hnext := Lib.hid hnext
                clear hCz hcm hfp
                go_wp2_with fail
                go_quiet (fail)
                go_wp2_with fail
                go_roundg (i + 1 - (h + 1))
                case measure => omega
                case rel => exact ⟨h + 1, h, by omega, by omega, rfl, rfl, by go_num, by omega, ⟨dh, hdh, hnext.out⟩, hZ.out.below (Drawn0.mk ⟨nq, rfl⟩ : Drawn0 _ _).below⟩
              · rw [if_neg (fun e' => e e'.symm)] at hnext
                have e1 : (sh == sk) = false := by simpa using e
                replace hZ := Lib.hid hZ
                replace hnext := Lib.hid hnext
                clear hCz hcm hfp
                go_wp2_with fail
                go_quiet (fail)
                go_wp2_with fail
                go_roundg (i + 1 - (h + 1))
                case measure => omega
                case rel => exact ⟨h + 1, l, by omega, by omega, rfl, rfl, by go_num, by omega, ⟨dl, hdl, hnext.out⟩, hZ.out.below (Drawn0.mk ⟨nq, rfl⟩ : Drawn0 _ _).below⟩
            · obtain rfl : h = i + 1 := by omega
              rw [show max (i + 1) (k + 1) = i + 1 by omega] at hfp
              obtain ⟨xl, vl, el, _, _, l2, hRl⟩ := hCz l dl hdl
              injection el with el
              subst el
              have hsmall := hT.out.small dl (List.mem_of_getElem? hdl)
              have rc := hZ.rc
              have rz := hZ.rz
              have bx := hZ.st.box
              have cS := hZ.see hink.out hfp
              have kl : (k : Int) < (ds.length : Int) := by omega
              have ll : (l : Int) < (ds.length : Int) := by omega
              have nk : (x.add (k * 3)).block ≠ R := by have := hC.out.lt hdk; omega
              have nl : (x.add (l * 3)).block ≠ R := by have := hC.out.lt hdl; omega
              have np : p ≠ R := by have := hp.1; omega
              replace hZ := Lib.hid hZ
              replace hRl := Lib.hid hRl
              clear hCz hcm hfp hsk
              go_wp2_with fail
              go_region_held3 (fun w' => w'.cell? ⟨p, 0, none⟩ = some (.slice (some x) ds.length c) ∧ w'.cell? ⟨(x.add (k * 3)).block, (x.add (k * 3)).off + 1, none⟩ = some (.int .i64 sk) ∧ w'.cell? ⟨(x.add (l * 3)).block, (x.add (l * 3)).off + 2, none⟩ = some vl ∧ w'.cell? ⟨g, 0, none⟩ = some (.pointer (some ⟨vp, 0, none⟩)) ∧ w'.cell? ⟨R, 0, none⟩ = some (.bool true))
                (first | go_keep | exact ⟨t0, t1, t2, t3, t4⟩)
                (first
                  | (go_at_call 22; (with_reducible refine cS.mono ?_); clear cS; rintro e w1 ⟨⟨v, rfl, hF⟩, hB1⟩; obtain ⟨Ao, co, rfl⟩ := own_slice hF; have hZ1 := (hZ.out.below (Below.refl _ _).drew).below hB1; have hcm1 := Cm.below hB1; have q0 := hcm1 _ _ (cdr pc); have q1 := hcm1 _ _ (cdr k1); have q2 := hcm1 _ _ (cdr l2); have q3 := hZ1.st.box; have q4 := hZ1.rc; have cB := Bytes_same w1 _ _ _ (FrB.reads hF) (hRl.out.cm ((Cm.below (Below.refl _ _).drew).trans hcm1)); replace hF := Lib.hid hF; replace hZ1 := Lib.hid hZ1; replace hB1 := Lib.hid hB1; clear hcm1)
                  | (go_at_call 21; (with_reducible refine cB.mono ?_); clear cB; rintro e w2 ⟨rfl, hD2⟩; have hZ2 := hZ1.out.below hD2.below; have hcm2 := Cm.drawn hD2; have r0 := hcm2 _ _ q0; have r1 := hcm2 _ _ q1; have r2 := hcm2 _ _ q2; have r3 := hZ2.st.box; have r4 := hZ2.rc; have r5 := hZ2.rz; have t0 := setfar (R := R) (u := .bool true) r0 np; have t1 := setfar (R := R) (u := .bool true) r1 nk; have t2 := setfar (R := R) (u := .bool true) r2 nl; have t3 := setfar (R := R) (u := .bool true) r3 (Ne.symm hg); have hZ3 := hZ2.set hS.out h0 hv hg; have t4 := hZ3.rc; replace hZ3 := Lib.hid hZ3; replace hZ2 := Lib.hid hZ2; replace hD2 := Lib.hid hD2; clear hcm2))
              all_goals
                go_wp2_with fail
                go_roundg (i + 1 - (k + 1))
                case measure => omega
                case rel => exact ⟨k + 1, by omega, rfl, by go_num, hZ3.out⟩
        · obtain rfl : k = i + 1 := by omega
          replace hY := Lib.hid hY
          go_wp2_with fail
          go_roundg (ds.length - (i + 1))
          case measure => omega
          case rel => exact ⟨i + 1, by omega, rfl, by go_num, hY.out⟩
    · obtain rfl : i = ds.length := by omega
      replace hX := Lib.hid hX
      go_wp2_with fail
      go_end0
      exact ⟨rfl, hX.out⟩
end
end Go.Proofs.Ythaipkfaaojppaa.Vw
