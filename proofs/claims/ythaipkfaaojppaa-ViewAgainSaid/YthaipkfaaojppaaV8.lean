/- A script on a view: play, walked. -/
import Derived.Test.YthaipkfaaojppaaV5
namespace Go.Proofs.Ythaipkfaaojppaa.Vw
open Go.RowKit Go.Proofs.YthaipkfaaojppaaW.PrintWords Go.Proofs.YthaipkfaaojppaaW.PrintLast Go.Proofs.YthaipkfaaojppaaW.PrintMore
set_option linter.unusedVariables false
structure DoR where
  put : Bool
  slot : Int
  bs : List Int
def Scr (w : World) (A : Option Addr) (ds : List DoR) : Prop := ∀ (i : Nat) (d : DoR), ds[i]? = some d → ∃ x v, A = some x ∧ w.cell? (x.add (i * 3)) = some (.bool d.put) ∧ w.cell? ⟨(x.add (i * 3)).block, (x.add (i * 3)).off + 1, none⟩ = some (.int .i64 d.slot) ∧
  w.cell? ⟨(x.add (i * 3)).block, (x.add (i * 3)).off + 2, none⟩ = some v ∧ RdB w v d.bs
theorem Scr.cm {w w1 : World} {A : Option Addr} {ds : List DoR} (h : Scr w A ds) (c : Cm w w1) : Scr w1 A ds := fun i d hd => by
  obtain ⟨x, v, e, h1, h2, h3, h4⟩ := h i d hd
  exact ⟨x, v, e, c _ _ h1, c _ _ h2, c _ _ h3, h4.cm c⟩
structure Tame (ds : List DoR) : Prop where
  in64 : ∀ d ∈ ds, In64 d.slot
  small : ∀ d ∈ ds, d.bs.length ≤ 200000
  few : ds.length ≤ 100
inductive Res where
  | done (f : Int → Option (List Int)) (seen : List (List Int))
  | wants (slot : Int) (f : Int → Option (List Int))
def seeF (src f : Int → Option (List Int)) (k : Int) : Option (List Int) :=
  match f k with
  | some b => some b
  | none => src k
/-- What a script comes to. -/
def playF (src : Int → Option (List Int)) : List DoR → (Int → Option (List Int)) → List (List Int) → Res
  | [], f, acc => .done f acc
  | d :: ds, f, acc =>
    if d.put then playF src ds (updO f d.slot d.bs) acc
    else match seeF src f d.slot with
      | some b => playF src ds f (acc ++ [b])
      | none => .wants d.slot f
abbrev kB : Kd (List Int) := Kd.slice 5 (Kd.int .u8)
theorem Tch.newSet {M : Nat} {w wx : World} (h : Tch M w wx) {g : Nat} (hg : w.heap.size ≤ g) (j : Nat) (u : Value) : Tch M w (wx.setCell ⟨g, j, none⟩ u) := by
  refine ⟨h.os, h.tape, h.output, by simp only [World.setCell, Array.size_modify]; exact h.size, fun k hk hne => ?_⟩
  rw [Below.heap_setCell _ _ _ _ (by show k ≠ g; omega)]
  exact h.block k hk hne
/-- A row of the call's own is spoilt, byte by byte. -/
structure Spoil (w wx : World) (vp s M n : Nat) (f : Int → Option (List Int)) (T : Nat → Prop) (B : Nat) (vs : Value) (acc : List (List Int)) (N : Nat) (v : Value) (len : Nat) : Prop where
  vw : VwT wx vp (gv s) M n f T
  seen : kB.R 44 wx B (fun k => B ≤ k ∧ some k ≠ v.ownBlock) vs acc
  row : ∃ bs', bs'.length = len ∧ FrB wx N v bs'
  tch : Tch M w wx
  sep : ∀ b, T b → b < wx.heap.size → v.ownBlock ≠ some b
  vpN : vp < N
  MN : M < N
  wN : w.heap.size ≤ N
theorem Spoil.form {w wx : World} {vp s M n : Nat} {f : Int → Option (List Int)} {T : Nat → Prop} {B : Nat} {vs : Value} {acc : List (List Int)} {N : Nat} {v : Value} {len : Nat} (h : Spoil w wx vp s M n f T B vs acc N v len) (j : Nat) (hj : j < len) (u : Int) :
    ∃ g c x, v = .slice (some ⟨g, 0, none⟩) len c ∧ wx.cell? ⟨g, j, none⟩ = some x ∧ wx.frozen? ⟨g, j, none⟩ = false ∧ Spoil w (wx.setCell ⟨g, j, none⟩ (.int .u8 u)) vp s M n f T B vs acc N v len := by
  obtain ⟨bs, hl, hF⟩ := h.row
  obtain ⟨g, c, rfl, hg, hlt⟩ := hF.form (by omega)
  have ha := own_at hF (j : Int) (by omega) (by omega)
  rw [Int.toNat_natCast] at ha
  rw [hl]
  have hst := (own_store hF (j : Int) u).1
  rw [Int.toNat_natCast] at hst
  have vpN := h.vpN
  have MN := h.MN
  have wN := h.wN
  have hob : (Value.slice (some ⟨g, 0, none⟩) bs.length c).ownBlock = some g := rfl
  have hsep := h.sep
  have hseen := h.seen
  rw [hob] at hsep
  rw [hob] at hseen
  have keep : ∀ k, k ≠ g → (wx.setCell ⟨g, j, none⟩ (.int .u8 u)).heap[k]? = wx.heap[k]? := fun k hk => Below.heap_setCell _ _ _ _ hk
  have hszs : (wx.setCell ⟨g, j, none⟩ (.int .u8 u)).heap.size = wx.heap.size := by simp [World.setCell]
  refine ⟨g, c, _, rfl, ha.1, ha.2, ⟨⟨?_, ?_, ?_⟩, ?_, ⟨bs.set j u, by simp [hl], ?_⟩, h.tch.newSet (by omega) _ _, ?_, vpN, MN, wN⟩⟩
  · exact (World.cell?_of_block (w := wx) (keep vp (by omega))).trans h.vw.get
  · exact (World.cell?_of_block (w := wx) (keep vp (by omega))).trans h.vw.map
  · exact h.vw.own.move (keep M (by omega)) (fun b hb hbl _ => keep b (fun e => hsep b hb hbl (by rw [e])))
  · rw [← hl, hob]
    exact Kd.R_far hseen (fun k hk => fun e => hk.2 (by rw [e])) _
  · have hl2 : (bs.set j u).length = bs.length := by simp
    unfold FrB
    rw [hl2, ← hl]
    exact hst
  · rw [← hl, hob, hszs]
    exact hsep
theorem kdR_tch {α : Type} {d : Kd α} {e M : Nat} {w w1 : World} {base : Nat} {ok : Nat → Prop} {v : Value} {xs : List α} (h : d.R e w base ok v xs) (ht : Tch M w w1) (hm : MapBlk w M) : d.R e w1 base ok v xs :=
  R_typ h (fun b cells q _ hc => ht.block b (Array.getElem?_eq_some_iff.1 hc).1 (by
    rintro rfl
    obtain ⟨es, clock, he⟩ := hm
    rw [hc] at he
    simp at he))
theorem kdR_apart {α : Type} {d : Kd α} {e : Nat} {w : World} {base : Nat} {ok : Nat → Prop} {v u : Value} {xs : List α} (h : d.R e w base ok v xs) (hu : ∀ b, u.ownBlock = some b → w.heap.size ≤ b) : d.R e w base (fun k => ok k ∧ some k ≠ u.ownBlock) v xs :=
  Kd.R_mono (Kd.R_bound h) (fun k hk => ⟨hk.1, fun e => by have := hu k e.symm; have := hk.2.2.1; omega⟩)
theorem FrB.tch {M : Nat} {w w1 : World} {base : Nat} {v : Value} {bs : List Int} (h : FrB w base v bs) (ht : Tch M w w1) (hm : MapBlk w M) : FrB w1 base v bs :=
  h.move (fun b hb => ht.block b (own_lt h b hb) (h.ne hb hm))
/-- How a play ends. -/
def PlayPost (w : World) (vp s M n : Nat) : Res → Ending → World → Prop
  | .done f' seen, e, w' => (∃ v, e = .returned v ∧ kB.R 44 w' w.heap.size (fun k => w.heap.size ≤ k) v seen) ∧ (∃ n', n' ≤ n + 100 ∧ Vw w' vp (gv s) M n' f') ∧ Tch M w w'
  | .wants k f', e, w' => e = .panicked (wantedV k) ∧ (∃ n', n' ≤ n + 100 ∧ Vw w' vp (gv s) M n' f') ∧ Tch M w w'
structure PlayMid (w wr : World) (vp s M n : Nat) (src : Int → Option (List Int)) (ds : List DoR) (r : Res) (k : Nat) (v : Value) (f : Int → Option (List Int)) (acc : List (List Int)) (nk : Nat) : Prop where
  eq : r = playF src (ds.drop k) f acc
  vw : Vw wr vp (gv s) M nk f
  nk : nk ≤ n + k
  seen : kB.R 44 wr w.heap.size (fun k => w.heap.size ≤ k) v acc
  len : acc.length ≤ k
  tch : Tch M w wr
theorem VwT.small {w : World} {vp M n : Nat} {g : Value} {f : Int → Option (List Int)} {T : Nat → Prop} (h : VwT w vp g M n f T) {k : Int} (hk : In64 k) {b : List Int} (hf : f k = some b) : b.length ≤ 1000000 := by
  obtain ⟨D, _, ha⟩ := h.own
  have hm := ha k hk
  rw [hf] at hm
  exact hm.2.1
theorem getF_small {w : World} {s : Nat} {bl : List (List Int)} {kn : List Bool} (h : Src w s bl kn) {k : Int} {b : List Int} (hg : getF bl kn k = some b) : b.length ≤ 1000000 := by
  unfold getF at hg
  split at hg
  · rename_i hk
    injection hg with hg
    rw [← hg]
    exact h.small _ (by omega)
  · cases hg
theorem See_some (w : World) (vp s M n : Nat) (f : Int → Option (List Int)) (k : Int) (bl : List (List Int)) (kn : List Bool) (bs : List Int) (hV : Vw w vp (gv s) M n f) (hk : In64 k) (hS : Src w s bl kn) (h : seeF (getF bl kn) f k = some bs) :
    (Calls Try.prog 22 #[.pointer (some ⟨vp, 0, none⟩), .int .i64 k] w fun e w' => (∃ v, e = .returned v ∧ FrB w' w.heap.size v bs) ∧ Below w.heap.size w w') ∧ bs.length ≤ 1000000 := by
  unfold seeF at h
  cases hf : f k with
  | some b =>
    rw [hf] at h
    injection h with h
    subst h
    exact ⟨See_own w vp s M n f k b hV hk hf, hV.small hk hf⟩
  | none =>
    rw [hf] at h
    exact ⟨See_get w vp s M n f k bl kn bs hV hk hf hS h (getF_small hS h), getF_small hS h⟩
theorem seeF_none {src f : Int → Option (List Int)} {k : Int} (h : seeF src f k = none) : f k = none ∧ src k = none := by
  unfold seeF at h
  cases hf : f k with
  | some b => rw [hf] at h; cases h
  | none => rw [hf] at h; exact ⟨rfl, h⟩
theorem Tch.tail {g : Nat} {a b c : World} (h : Tch g a b) (hb : Below a.heap.size b c) : Tch g a c :=
  ⟨hb.os.trans h.os, hb.tape.trans h.tape, hb.output.trans h.output, Nat.le_trans h.size hb.size, fun i hi hg => (hb.block i hi).trans (h.block i hi hg)⟩
theorem VwT.grown44 {w w1 : World} {vp M n : Nat} {g : Value} {f : Int → Option (List Int)} {T : Nat → Prop} (h : VwT w vp g M n f T) {row : Option Nat} (hg : w.grownBy w1 row) (hvp : some vp ≠ row) (hM : some M ≠ row) (hty : ∀ b, row = some b → ∃ cells, w.heap[b]? = some (.cells cells 44 (0, 0))) : VwT w1 vp g M n f T := by
  refine ⟨?_, ?_, h.own.move (hg.block M h.own.lt hM) (fun b _ hb hc => hg.block b hb (fun e => ?_))⟩
  · exact (World.cell?_of_block (w := w) (hg.block vp (cell_lt h.get) hvp)).trans h.get
  · exact (World.cell?_of_block (w := w) (hg.block vp (cell_lt h.get) hvp)).trans h.map
  · obtain ⟨c1, e1⟩ := hty b e.symm
    obtain ⟨c2, e2⟩ := hc
    rw [e1] at e2
    simp at e2
theorem FrB.grown44 {w w1 : World} {base : Nat} {v : Value} {bs : List Int} (h : FrB w base v bs) {row : Option Nat} (hg : w.grownBy w1 row) (hty : ∀ b, row = some b → ∃ cells, w.heap[b]? = some (.cells cells 44 (0, 0))) : FrB w1 base v bs :=
  h.move (fun b hb => hg.block b (own_lt h b hb) (fun e => by
    obtain ⟨c1, e1⟩ := hty b e.symm
    obtain ⟨c2, e2⟩ := own_typed h b hb
    rw [e1] at e2
    simp at e2))
theorem info44 : (Try.prog.info? 44).map (fun i => (i.zero, i.size, i.bytes)) = some (some (.slice none 0 0), 1, 24) := by kernel_rfl
set_option maxRecDepth 100000 in
set_option maxHeartbeats 8000000 in
theorem play_walk (w : World) (vp s M n : Nat) (f : Int → Option (List Int)) (bl : List (List Int)) (kn : List Bool) (A : Option Addr) (c : Nat) (ds : List DoR) (hV : Vw w vp (gv s) M n f) (hn : n ≤ 1000) (hS : Src w s bl kn) (hC : Scr w A ds) (hT : Tame ds) :
    Calls Try.prog 13 #[.pointer (some ⟨vp, 0, none⟩), .slice A ds.length c] w (PlayPost w vp s M n (playF (getF bl kn) ds f [])) := by
  obtain ⟨r, hr⟩ : ∃ r, r = playF (getF bl kn) ds f [] := ⟨_, rfl⟩
  rw [← hr]
  have h0 : PlayMid w w vp s M n (getF bl kn) ds r 0 (.slice none 0 0) f [] n := ⟨hr, hV, Nat.le_refl _, Kd.R_nil _ _ _ _ _, Nat.le_refl _, Tch.refl _ _⟩
  have hblk := hV.own.blk
  have few := hT.few
  have hvp := cell_lt hV.map
  have hMl := hV.own.lt
  replace h0 := Lib.hid h0
  replace hS := Lib.hid hS
  replace hC := Lib.hid hC
  replace hT := Lib.hid hT
  replace hblk := Lib.hid hblk
  clear hr hV
  go_enter Try.func13, Try.ntmps13
  go_wp2_with fail
  go_loopg [5, 6] ds.length (fun gh v i wr => ∃ (k : Nat) (fk : Int → Option (List Int)) (acc : List (List Int)) (nk : Nat), k ≤ ds.length ∧ gh = ds.length - k ∧ i = .int .i64 k ∧ PlayMid w wr vp s M n (getF bl kn) ds r k v fk acc nk)
  case atStart => exact ⟨0, _, _, _, by omega, rfl, rfl, h0.out⟩
  case round =>
    obtain ⟨k, fk, acc, nk, hk, hgk, rfl, hM⟩ := hrel
    clear h0
    by_cases hlt : k < ds.length
    · obtain ⟨d, hd⟩ : ∃ d, ds[k]? = some d := ⟨_, List.getElem?_eq_getElem hlt⟩
      have hdm := List.mem_of_getElem? hd
      have hin := hT.out.in64 d hdm
      have hsm := hT.out.small d hdm
      have hcm := hM.tch.cm hblk.out
      obtain ⟨x, vb, rfl, c0, c1, c2, hRb⟩ := (hC.out.cm hcm) k d hd
      have hSr := hS.out.cm hcm
      have hdrop : ds.drop k = d :: ds.drop (k + 1) := by
        rw [List.drop_eq_getElem_cons hlt]
        congr 1
        have := List.getElem?_eq_getElem hlt
        rw [hd] at this
        injection this with this
        exact this.symm
      have heq := hM.eq
      rw [hdrop] at heq
      unfold playF at heq
      have hsz := hM.tch.size
      have hnk := hM.nk
      have hlen := hM.len
      obtain ⟨pu, sl, bs⟩ := d
      dsimp only at hin hsm c0 c1 c2 hRb heq
      replace hin := Lib.hid hin
      cases pu with
      | true =>
        rw [if_pos rfl] at heq
        replace heq := Lib.hid heq
        obtain ⟨Ab, cb, rfl, hcb, hRI⟩ := hRb.slice
        have hO0 : (wr.alloc (.cells #[] 5)).ownsRow wr.heap.size 5 1 (.slice (some ⟨wr.heap.size, 0, none⟩) 0 0) 0 (nums .u8 []) := own_lit wr wr.heap.size 5 .u8 [] (Nat.le_refl _) (by simp)
        have hB0 : Below wr.heap.size wr (wr.alloc (.cells #[] 5)) := (Below.refl _ _).alloc (Nat.le_refl _) _
        replace hRI := hRI.below hB0
        have c2a := Cm.below hB0 _ _ c2
        replace hO0 := Lib.hid hO0
        replace hB0 := Lib.hid hB0
        replace hRI := Lib.hid hRI
        replace hSr := Lib.hid hSr
        replace hM := Lib.hid hM
        clear hRb hd hdm hdrop hcm
        go_wp2_with (at_builtin; refine print_append_row (w0 := wr) wr.heap.size rfl (.tmp 22) (.tmp 27) 44 5 .u8 1 rfl Try.underlying44 info5 (by decide) (.slice (some ⟨wr.heap.size, 0, none⟩) 0 0) [] bs Ab bs.length cb rfl rfl hO0.out hRI.out hB0.out hB0.out.size (by simp only [List.length_nil]; omega) ?_; intro own w2 ho hb hg hat; clear hg hat; rw [List.nil_append] at ho; replace ho := Lib.hid ho; have c1b := Cm.below hb _ _ c1; replace hb := Lib.hid hb)
        obtain ⟨Ao, co, rfl⟩ := own_slice ho.out
        have hV2 : VwT w2 vp (gv s) M nk fk (fun b => b < wr.heap.size) := (hM.out.vw.mono (fun b _ h => h)).below hb.out
        have hbs := hb.out.size
        refine (Put_walkT w2 vp (gv s) M nk fk _ sl _ bs hV2 (by omega) hin.out (FrB.reads ho.out) (by omega)).mono ?_
        rintro e w3 ⟨rfl, hV3, hT3⟩
        have hblk2 := hV2.own.blk
        have hap := kdR_apart (u := .slice Ao bs.length co) hM.out.seen (fun b e => own_base ho.out b e)
        have hS3 := kdR_tch (Kd.R_below hap hb.out) hT3 hblk2
        have hSp : Spoil w w3 vp s M (nk + 1) (updO fk sl bs) (fun b => b < wr.heap.size ∨ w2.heap.size ≤ b) w.heap.size u5 acc wr.heap.size (.slice Ao bs.length co) bs.length :=
          ⟨hV3, hS3, ⟨bs, rfl, FrB.tch ho.out hT3 hblk2⟩, (hM.out.tch.trans (Tch.ofBelow hb.out)).trans hT3, fun b hb2 _ e => by
            have h1 := own_base ho.out b e
            have h2 := own_lt ho.out b e
            rcases hb2 with h3 | h3 <;> omega, by omega, by omega, hsz⟩
        replace hSp := Lib.hid hSp
        clear hV3 hT3 hS3 hap hV2 hblk2 c1b c2a c0 c1 c2
        go_wp2_with fail
        go_loopg [8] bs.length (fun gh i wx => ∃ j : Nat, j ≤ bs.length ∧ gh = bs.length - j ∧ i = .int .i64 j ∧ Spoil w wx vp s M (nk + 1) (updO fk sl bs) (fun b => b < wr.heap.size ∨ w2.heap.size ≤ b) w.heap.size u5 acc wr.heap.size (.slice Ao bs.length co) bs.length)
        case atStart => exact ⟨0, by omega, rfl, rfl, hSp.out⟩
        case round =>
          obtain ⟨j, hj, hgj, rfl, hX⟩ := hrel
          clear hSp
          by_cases hjl : j < bs.length
          · obtain ⟨g, c', xv, hA, hc1, hf1, hN⟩ := hX.form j hjl 85
            injection hA with hA _ hcap
            subst hA hcap
            replace hN := Lib.hid hN
            replace hX := Lib.hid hX
            go_wp2_with fail
            go_roundg (bs.length - (j + 1))
            case measure => omega
            case rel => exact ⟨j + 1, by omega, rfl, by go_num, hN.out⟩
          · have hN : PlayMid w _ vp s M n (getF bl kn) ds r (k + 1) u5 (updO fk sl bs) acc (nk + 1) :=
              ⟨heq.out, hX.vw.mono (fun _ _ _ => trivial), by omega, Kd.R_mono hX.seen (fun k hk => hk.1), by omega, hX.tch⟩
            replace hN := Lib.hid hN
            clear hX
            go_wp2_with fail
            go_roundg (ds.length - (k + 1))
            case measure => omega
            case rel => exact ⟨k + 1, _, _, _, by omega, rfl, by go_num, hN.out⟩
      | false =>
        rw [if_neg (by decide)] at heq
        cases hsee : seeF (getF bl kn) fk sl with
        | none =>
          rw [hsee] at heq
          dsimp only at heq
          have hno := seeF_none hsee
          have cS := See_wants wr vp s M nk fk sl bl kn hM.vw hin.out hno.1 hSr hno.2
          have hV' := hM.vw
          have ht' := hM.tch
          subst heq
          replace hV' := Lib.hid hV'
          replace ht' := Lib.hid ht'
          clear hRb hd hdm hdrop hcm hM hno
          go_wp2_with (go_at_call 22; refine cS.mono ?_; clear cS; rintro e w1 ⟨rfl, rfl⟩)
          exact ⟨rfl, rfl, ⟨nk, by omega, hV'.out⟩, ht'.out⟩
        | some b =>
          rw [hsee] at heq
          dsimp only at heq
          obtain ⟨cS, hbl⟩ := See_some wr vp s M nk fk sl bl kn b hM.vw hin.out hSr hsee
          replace heq := Lib.hid heq
          replace hM := Lib.hid hM
          clear hRb hd hdm hdrop hcm hSr hsee
          go_wp2_with (first
            | (go_at_call 22; refine cS.mono ?_; clear cS; rintro e w1 ⟨⟨v1, rfl, hF⟩, hb1⟩; obtain ⟨A1, cc1, rfl, _, hRI⟩ := (FrB.reads hF).slice; have hO0 : (w1.alloc (.cells #[] 5)).ownsRow w1.heap.size 5 1 (.slice (some ⟨w1.heap.size, 0, none⟩) 0 0) 0 (nums .u8 []) := own_lit w1 w1.heap.size 5 .u8 [] (Nat.le_refl _) (by simp); have hB0 : Below w1.heap.size w1 (w1.alloc (.cells #[] 5)) := (Below.refl _ _).alloc (Nat.le_refl _) _; replace hRI := hRI.below hB0; have hs1 := hb1.size; have hR1 := Kd.R_below (kdR_apart (u := .slice A1 b.length cc1) hM.out.seen (fun b e => own_base hF b e)) hb1; have hV1 : VwT w1 vp (gv s) M nk fk (fun b => b < wr.heap.size) := (hM.out.vw.mono (fun b _ h => h)).below hb1; have hT1 : Tch M w w1 := hM.out.tch.trans (Tch.ofBelow hb1); replace hF := Lib.hid hF; replace hO0 := Lib.hid hO0; replace hB0 := Lib.hid hB0; replace hRI := Lib.hid hRI; replace hR1 := Lib.hid hR1; replace hV1 := Lib.hid hV1; replace hT1 := Lib.hid hT1; clear hb1 c0 c1 c2)
            | (at_builtin; refine print_append_row (w0 := w1) w1.heap.size rfl (.tmp 54) (.tmp 55) 44 5 .u8 1 rfl Try.underlying44 info5 (by decide) (.slice (some ⟨w1.heap.size, 0, none⟩) 0 0) [] b A1 b.length cc1 rfl rfl hO0.out hRI.out hB0.out hB0.out.size (by simp only [List.length_nil]; omega) ?_; intro own w2 ho hb hg hat; clear hg hat; rw [List.nil_append] at ho; have hs2 := hb.size; obtain ⟨Ao, co, rfl⟩ := own_slice ho; have hp : kB.M w2 w.heap.size (fun k => w1.heap.size ≤ k) b [.slice Ao b.length co] := ⟨_, rfl, FrB.kdR ho w.heap.size (by omega)⟩; replace hR1 := Kd.R_below hR1.out hb; replace hV1 := hV1.out.below hb; replace hT1 := hT1.out.trans (Tch.ofBelow hb); have hF2 := hF.out.below hb; have hokp : ∀ k, w1.heap.size ≤ k → (w.heap.size ≤ k ∧ some k ≠ (Value.slice A1 b.length cc1).ownBlock) ∧ some k ≠ (u5 : Value).ownBlock := (fun k hk => ⟨⟨by omega, fun e => by have := own_lt hF.out k e.symm; omega⟩, fun e => by obtain ⟨inner, ho⟩ := Kd.R_own hM.out.seen; have := own_lt ho k e.symm; omega⟩); have hsep : ∀ b', b' < wr.heap.size → b' < w2.heap.size → (Value.slice A1 b.length cc1).ownBlock ≠ some b' := (fun b' h1 _ e => by have := own_base hF.out b' e; omega); clear ho hb; replace hp := Lib.hid hp; replace hR1 := Lib.hid hR1; replace hV1 := Lib.hid hV1; replace hT1 := Lib.hid hT1; replace hF2 := Lib.hid hF2; replace hokp := Lib.hid hokp; replace hsep := Lib.hid hsep; clear hO0 hB0 hRI)
            | (at_builtin; refine Kd.R_append kB (w0 := w2) w.heap.size rfl (.tmp 53) (.tmp 57) 22 44 (.slice none 0 0) 24 rfl Try.underlying22 info44 rfl (by decide) (by decide) _ acc b [.slice Ao b.length co] (fun k => w.heap.size ≤ k ∧ some k ≠ (Value.slice A1 b.length cc1).ownBlock) (fun k => w1.heap.size ≤ k) rfl rfl hp.out hokp.out (fun k hk => (hokp.out k (by omega)).1) hR1.out (Below.refl _ _) (by omega) (by omega) ?_; intro v3 w3 hR3 hb3 hg3 hat3; clear hat3; have hty := Kd.R_typed hR1.out; have hown := Kd.R_base hR1.out; have hV3 := hV1.out.grown44 hg3 (fun e => by have := hown vp e.symm; omega) (fun e => by have := hown M e.symm; omega) hty; have hSp : Spoil w w3 vp s M nk fk (fun b => b < wr.heap.size) w.heap.size v3 (acc ++ [b]) wr.heap.size (.slice A1 b.length cc1) b.length := ⟨hV3, hR3, ⟨b, rfl, hF2.out.grown44 hg3 hty⟩, hT1.out.tail hb3, fun b' h1 _ e => by have := own_base hF.out b' e; omega, by omega, by omega, hsz⟩; replace hSp := Lib.hid hSp; clear hR3 hb3 hg3 hty hown hV3 hp hokp hR1 hV1 hT1 hF2 hsep))
          go_loopg [10] b.length (fun gh i wx => ∃ j : Nat, j ≤ b.length ∧ gh = b.length - j ∧ i = .int .i64 j ∧ Spoil w wx vp s M nk fk (fun b => b < wr.heap.size) w.heap.size v3 (acc ++ [b]) wr.heap.size (.slice A1 b.length cc1) b.length)
          case atStart => exact ⟨0, by omega, rfl, rfl, hSp.out⟩
          case round =>
            obtain ⟨j, hj, hgj, rfl, hX⟩ := hrel
            clear hSp
            by_cases hjl : j < b.length
            · obtain ⟨g, c', xv, hA, hc1, hf1, hN⟩ := hX.form j hjl 119
              injection hA with hA _ hcap
              subst hA hcap
              replace hN := Lib.hid hN
              replace hX := Lib.hid hX
              go_wp2_with fail
              go_roundg (b.length - (j + 1))
              case measure => omega
              case rel => exact ⟨j + 1, by omega, rfl, by go_num, hN.out⟩
            · have hN : PlayMid w _ vp s M n (getF bl kn) ds r (k + 1) v3 fk (acc ++ [b]) nk :=
                ⟨heq.out, hX.vw.mono (fun _ _ _ => trivial), by omega, Kd.R_mono hX.seen (fun k hk => hk.1), by simp; omega, hX.tch⟩
              replace hN := Lib.hid hN
              clear hX
              go_wp2_with fail
              go_roundg (ds.length - (k + 1))
              case measure => omega
              case rel => exact ⟨k + 1, _, _, _, by omega, rfl, by go_num, hN.out⟩
    · have heq := hM.eq
      rw [List.drop_eq_nil_of_le (by omega)] at heq
      unfold playF at heq
      subst heq
      have hnk := hM.nk
      replace hM := Lib.hid hM
      go_wp2_with fail
      go_ret
      exact ⟨⟨_, rfl, hM.out.seen⟩, ⟨nk, by omega, hM.out.vw⟩, hM.out.tch⟩
end Go.Proofs.Ythaipkfaaojppaa.Vw
