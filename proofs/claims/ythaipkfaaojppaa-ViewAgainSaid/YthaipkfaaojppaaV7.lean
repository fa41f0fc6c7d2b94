/- View.Changes, walked. -/
import Derived.Test.YthaipkfaaojppaaV6
import Derived.OpenShut
namespace Go.Proofs.Ythaipkfaaojppaa.Vw
open Go.RowKit Go.Proofs.YthaipkfaaojppaaW.PrintWords Go.Proofs.YthaipkfaaojppaaW.PrintLast Go.Proofs.YthaipkfaaojppaaW.PrintMore
open Go.Proofs.Ythaipkfaaojppaa.PViewRuns (S59 k59 info59 k59_mkM)
open Go.Shelf Go.Sort Go.Maps
set_option linter.unusedVariables false
/-- The keys at which something is, ascending. -/
structure KeysOf (f : Int → Option (List Int)) (ks : List Int) : Prop where
  sorted : ks.Pairwise (fun a b => a < b)
  mem : ∀ x, In64 x → (x ∈ ks ↔ f x ≠ none)
  in64 : ∀ x ∈ ks, In64 x
theorem keys_of {w : World} {M n : Nat} {D : DV} {f : Int → Option (List Int)} {T : Nat → Prop} (h : OwnD w M n D f T) {ss : List Int} (hp : ss.Perm (intKeys D)) : KeysOf f (ss.mergeSort leI) := by
  have hown := h.own
  obtain ⟨es, hD, hpw, _⟩ := hown.entries law
  obtain ⟨es', hD', hko⟩ := hown.keysOf
  obtain rfl : es = es' := by rw [hD] at hD'; simpa using hD'
  have hk : ∀ p ∈ es, ∃ x, p.1 = .int .i64 x := fun p hp => by obtain ⟨v, hv⟩ := hko p hp; obtain ⟨x, _, hx, _⟩ := Maps.keyOf_i64 Try.underlying3 hv; exact ⟨x, hx⟩
  have hmem : ∀ x, x ∈ intKeys D ↔ Maps.has D (kl x) = true := by
    intro x
    rw [hD, has_eq, List.any_eq_true]
    show x ∈ es.map (fun p => _root_.Go.intOf p.1) ↔ _
    rw [List.mem_map]
    constructor
    · rintro ⟨p, hp', rfl⟩
      obtain ⟨a, ha⟩ := hk p hp'
      exact ⟨p, hp', by rw [ha]; simp [Lit.sameKey, _root_.Go.intOf, kl]⟩
    · rintro ⟨p, hp', hs⟩
      obtain ⟨a, ha⟩ := hk p hp'
      rw [ha] at hs
      exact ⟨p, hp', by rw [ha]; simpa [Lit.sameKey, _root_.Go.intOf, kl] using hs⟩
  have hnd : (intKeys D).Nodup := by
    rw [hD]
    show (es.map fun p => _root_.Go.intOf p.1).Nodup
    refine List.pairwise_map.2 (hpw.imp_of_mem fun {p q} hp' hq' hne e => hne ?_)
    obtain ⟨a, ha⟩ := hk p hp'
    obtain ⟨b, hb⟩ := hk q hq'
    rw [ha, hb] at e ⊢
    exact congrArg _ e
  have hin : ∀ x ∈ intKeys D, In64 x := fun x hx => bounds_i64 (intKeys_wf hown Try.underlying3 x hx)
  have hpm : (ss.mergeSort leI).Perm (intKeys D) := (List.mergeSort_perm ss leI).trans hp
  have hmem2 : ∀ x, x ∈ ss.mergeSort leI ↔ x ∈ intKeys D := fun x => hpm.mem_iff
  refine ⟨?_, fun x hx => ?_, fun x hx => hin x ((hmem2 x).1 hx)⟩
  · have tr : ∀ a b c : Int, leI a b = true → leI b c = true → leI a c = true := fun a b c h1 h2 => by simp only [leI, decide_eq_true_eq] at *; exact Int.le_trans h1 h2
    have tt : ∀ a b : Int, (leI a b || leI b a) = true := fun a b => by simp only [leI, Bool.or_eq_true, decide_eq_true_eq]; exact Int.le_total a b
    have h1 := List.pairwise_mergeSort tr tt ss
    have h2 : (ss.mergeSort leI).Pairwise (fun a b => a ≠ b) := (hpm.nodup_iff).2 hnd
    exact (h1.and h2).imp (fun {a b} hh => by have := hh.1; simp only [leI, decide_eq_true_eq] at this; have := hh.2; omega)
  · rw [hmem2, hmem]
    have := h.at' x hx
    revert this
    cases f x with
    | none => intro hh; simp [MapAt] at hh; simp [hh]
    | some bs => rintro ⟨hh, _⟩; simp [hh]
def putL (f : Int → Option (List Int)) (ks : List Int) : List S59 := ks.map fun x => ⟨x, (f x).getD []⟩
theorem putL_snoc (f : Int → Option (List Int)) (ks : List Int) (j : Nat) (x : Int) (hx : ks[j]? = some x) : putL f (ks.take (j + 1)) = putL f (ks.take j) ++ [⟨x, (f x).getD []⟩] := by
  unfold putL
  rw [List.take_add_one, hx]
  simp
structure ChMid (w6 wr : World) (f : Int → Option (List Int)) (ks : List Int) (j : Nat) (v : Value) : Prop where
  row : Kd.R k59 59 wr w6.heap.size (fun k => w6.heap.size ≤ k) v (putL f (ks.take j))
  bel : Below w6.heap.size w6 wr
set_option maxRecDepth 100000 in
set_option maxHeartbeats 4000000 in
theorem Changes_walk (w : World) (vp : Nat) (g : Value) (M n : Nat) (f : Int → Option (List Int)) (hV : Vw w vp g M n f) (hn : n ≤ 1000000) :
    Calls Try.prog 16 #[.pointer (some ⟨vp, 0, none⟩)] w fun e w' => (∃ v ks, e = .returned v ∧ KeysOf f ks ∧ Kd.R k59 59 w' w.heap.size (fun k => w.heap.size ≤ k) v (putL f ks)) ∧ Below w.heap.size w w' := by
  obtain ⟨D, hD⟩ := hV.own
  have hsz := hD.own.size_le
  have cS := Sorted_walk w M n D RH hD.own (by unfold maxLen; omega) (by omega)
  have cK := Keys_walk w (some M)
  have hm := hV.map
  have hgl : w.heap.size ≤ (w.alloc (.cells #[.map (some M)] 53)).heap.size := by simp
  replace hV := Lib.hid hV
  replace hD := Lib.hid hD
  go_enter Try.func16, Try.ntmps16
  go_wp2_with (first
    | (go_at_call 30; refine cK.mono ?_; clear cK; rintro e w1 ⟨rfl, rfl⟩)
    | (go_at_call 29; refine cS.mono ?_; clear cS; rintro e w6 ⟨v, ss, rfl, hS, hrow, hnil, hb⟩; obtain ⟨A, cA, rfl⟩ := own_slice hrow))
  obtain ⟨ks, hks⟩ : ∃ ks, ks = ss.mergeSort leI := ⟨_, rfl⟩
  have hK := keys_of hD.out hS
  have hlen : ss.length = ks.length := by rw [hks]; exact (List.length_mergeSort ss).symm
  have hkl : ks.length ≤ 1000000 := by
    have h1 := hS.length_eq
    have h2 : (intKeys D).length = Maps.size D := by
      obtain ⟨es, hE, _⟩ := hD.out.own.entries law
      rw [hE]
      simp [intKeys, Maps.size]
    omega
  rw [← hks] at hrow hK
  clear hks hS hnil
  rw [hlen] at hrow ⊢
  clear hlen
  have hb6 : Below w.heap.size w w6 := ((Below.refl _ w).alloc (Nat.le_refl _) _).trans (hb.mono hgl)
  have hb6s := hb6.size
  have hD6 : OwnD w6 M n D f (fun _ => True) := by
    obtain ⟨⟨es, clock, he, r⟩, ha⟩ := hD.out
    have hlt := (hD.out.own).lt
    exact ⟨⟨es, clock, (hb6.block _ hlt).trans he, r⟩, fun k hk => (ha k hk).move (fun b _ hl _ => hb6.block b hl)⟩
  have hm6 : w6.cell? ⟨vp, 1, none⟩ = some (.map (some M)) := Cm.below hb6 _ _ hm
  clear hb hm
  have h0 : ChMid w6 w6 f ks 0 (.slice none 0 0) := ⟨Kd.R_nil _ _ _ _ _, Below.refl _ _⟩
  replace h0 := Lib.hid h0
  replace hb6 := Lib.hid hb6
  replace hD6 := Lib.hid hD6
  replace hrow := Lib.hid hrow
  replace hm6 := Lib.hid hm6
  replace hK := Lib.hid hK
  clear hD hV
  go_loopg [3, 13] ks.length (fun gh v i wr => ∃ j : Nat, j ≤ ks.length ∧ gh = ks.length - j ∧ i = .int .i64 j ∧ ChMid w6 wr f ks j v)
  case atStart => exact ⟨0, by omega, rfl, rfl, h0.out⟩
  case round =>
    obtain ⟨j, hj, hgj, rfl, hM⟩ := hrel
    clear h0
    by_cases hlt : j < ks.length
    · obtain ⟨kb, cap, hA, hkb, hkbl⟩ := hrow.out.form (by omega)
      have hrr := hrow.out
      rw [hA] at hrr
      obtain ⟨hcell, _⟩ := own_at (xs := ks) hrr (j : Int) (by omega) (by omega)
      rw [Int.toNat_natCast] at hcell
      injection hA with hA _ hcap
      subst hcap
      subst hA
      obtain ⟨x, hx⟩ : ∃ x, ks[j]? = some x := ⟨_, List.getElem?_eq_getElem hlt⟩
      have hxr : YthaipkfaaojppaaW.PrintWords.rd ks (j : Int) = x := by
        unfold YthaipkfaaojppaaW.PrintWords.rd
        rw [Int.toNat_natCast, List.getD_eq_getElem?_getD, hx]
        rfl
      rw [hxr] at hcell
      replace hcell := (hM.bel.cell (p := ⟨kb, j, none⟩) hkbl).trans hcell
      have hmr : wr.cell? ⟨vp, 1, none⟩ = some (.map (some M)) := Cm.below hM.bel _ _ hm6.out
      have hin := hK.out.in64 x (List.mem_of_getElem? hx)
      have hfx := (hK.out.mem x hin).1 (List.mem_of_getElem? hx)
      obtain ⟨bs, hbs⟩ : ∃ bs, f x = some bs := by
        cases e : f x with
        | none => exact absurd e hfx
        | some bs => exact ⟨bs, rfl⟩
      have hat := hD6.out.at' x hin
      rw [hbs] at hat
      obtain ⟨_, hbl, u, hu, hF, _⟩ := hat
      have hownr : wr.ownsMap Try.prog 3 RH M n D := by
        obtain ⟨es, clock, he, r⟩ := hD6.out.own
        exact ⟨es, clock, (hM.bel.block _ hD6.out.own.lt).trans he, r⟩
      obtain ⟨v2, ps, hrun, hv2⟩ := hownr.lookup law Try.underlying53 (zero44 wr) (show RH (.slice none 0 0) = some (.held (.slice none 0 0), []) from rfl) (key_of hin)
      have e2 := (RH_eq hv2).symm.trans hu
      injection e2 with e2
      subst e2
      have cC := Clone_walk wr v2 bs (hF.below hM.bel).reads hbl
      have hsn := putL_snoc f ks j x hx
      rw [hbs] at hsn
      replace hsn := Lib.hid hsn
      have hl0 : (putL f (ks.take j)).length = j := by simp [putL]; omega
      have hroom : ((putL f (ks.take j)).length + 1) * 32 ≤ 140737488355328 := by omega
      have hsz6 := hM.bel.size
      replace hroom := Lib.hid hroom
      replace hM := Lib.hid hM
      replace hl0 := Lib.hid hl0
      clear hxr hx hfx hbs hF hu hv2 hownr hrr hin
      go_wp2_with (first
        | (go_at_call 31; refine cC.mono ?_; clear cC; rintro e w7 ⟨v1, rfl, hF1, hB7⟩; obtain ⟨A1, c1, rfl⟩ := own_slice hF1; have hsz7 := hB7.size; have hp := k59_mkM w7 w6.heap.size (fun k => wr.heap.size ≤ k) ⟨x, bs⟩ (hF1.kdR w6.heap.size hsz6); have hR7 := Kd.R_below hM.out.row hB7; have hB67 := hM.out.bel.trans (hB7.mono hsz6); have hok : ∀ k, wr.heap.size ≤ k → (fun k => w6.heap.size ≤ k) k ∧ some k ≠ (u3 : Value).ownBlock := (fun k hk => ⟨Nat.le_trans hsz6 hk, fun e => by obtain ⟨inner, ho⟩ := Kd.R_own hM.out.row; have := own_lt ho k e.symm; omega⟩); replace hp := Lib.hid hp; replace hR7 := Lib.hid hR7; replace hok := Lib.hid hok; have hB67' := Lib.hid hB67; clear hF1 hB7 hB67)
        | (at_builtin; refine Kd.R_append k59 (w0 := w6) w6.heap.size rfl (.tmp 17) (.tmp 27) 37 59 (.agg #[(.int .i64 0), (.slice none 0 0)]) 32 rfl Try.underlying37 info59 rfl (by decide) (by decide) _ (putL f (ks.take j)) (⟨x, bs⟩ : S59) [.int .i64 x, .slice A1 bs.length c1] (fun k => w6.heap.size ≤ k) (fun k => wr.heap.size ≤ k) rfl rfl hp.out hok.out (fun k hk => Nat.le_trans (Nat.le_trans hsz6 hsz7) hk) hR7.out hB67'.out (Nat.le_trans hsz6 hsz7) hroom.out ?_; intro v3 w8 ho hb hg hat; clear hg hat; have hN : ChMid w6 w8 f ks (j + 1) v3 := ⟨by rw [hsn.out]; exact ho, hb⟩; clear ho hb; replace hN := Lib.hid hN))
      go_roundg (ks.length - (j + 1))
      case measure => omega
      case rel => exact ⟨j + 1, by omega, rfl, by go_num, hN.out⟩
    · have : j = ks.length := by omega
      subst this
      replace hM := Lib.hid hM
      go_wp2_with fail
      go_ret
      have hr := hM.out.row
      rw [List.take_length] at hr
      exact ⟨⟨_, ks, rfl, hK.out, Kd.R_mono (Kd.R_lower hr hb6s) (fun k hk => Nat.le_trans hb6s hk)⟩, hb6.out.trans (hM.out.bel.mono hb6s)⟩
end Go.Proofs.Ythaipkfaaojppaa.Vw
