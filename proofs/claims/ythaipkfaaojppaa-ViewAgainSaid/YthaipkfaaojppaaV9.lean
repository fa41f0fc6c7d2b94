/- may, walked. -/
import Derived.Test.YthaipkfaaojppaaV8
namespace Go.Proofs.Ythaipkfaaojppaa.Vw
open Go.RowKit Go.Proofs.YthaipkfaaojppaaW.PrintWords Go.Proofs.YthaipkfaaojppaaW.PrintLast Go.Proofs.YthaipkfaaojppaaW.PrintMore
set_option linter.unusedVariables false
/-- A source, of whatever sizes. -/
structure Raw (w : World) (s : Nat) (bl : List (List Int)) (kn : List Bool) : Prop where
  blocks : ∃ A c, w.cell? ⟨s, 0, none⟩ = some (.slice A bl.length c) ∧ RowB w A bl
  known : ∃ A c, w.cell? ⟨s, 1, none⟩ = some (.slice A kn.length c) ∧ RowK w A kn
  lenB : bl.length ≤ 9223372036854775807
  lenK : kn.length ≤ 9223372036854775807
  small : ∀ i, i < bl.length → (bl.getD i []).length ≤ 281474976710656
theorem Raw.cm {w w1 : World} {s : Nat} {bl : List (List Int)} {kn : List Bool} (h : Raw w s bl kn) (c : Cm w w1) : Raw w1 s bl kn := by
  obtain ⟨A, c0, h1, h2⟩ := h.blocks
  obtain ⟨A', c0', h3, h4⟩ := h.known
  exact ⟨⟨A, c0, c _ _ h1, h2.cm c⟩, ⟨A', c0', c _ _ h3, h4.cm c⟩, h.lenB, h.lenK, h.small⟩
/-- A script, of whatever sizes. -/
structure Wild (ds : List DoR) : Prop where
  in64 : ∀ d ∈ ds, In64 d.slot
  small : ∀ d ∈ ds, d.bs.length ≤ 281474976710656
  few : ds.length ≤ 9223372036854775807
structure MayOk (bl : List (List Int)) (kn : List Bool) (ds : List DoR) : Prop where
  len : bl.length = kn.length
  few : bl.length ≤ 300
  done : ds.length ≤ 100
  smallB : ∀ i, i < bl.length → (bl.getD i []).length ≤ 131072
  smallD : ∀ d ∈ ds, d.bs.length ≤ 131072
theorem MayOk.src {w : World} {s : Nat} {bl : List (List Int)} {kn : List Bool} {ds : List DoR} (h : MayOk bl kn ds) (r : Raw w s bl kn) : Src w s bl kn :=
  ⟨r.blocks, r.known, h.len, h.few, fun i hi => Nat.le_trans (h.smallB i hi) (by decide)⟩
theorem MayOk.tame {bl : List (List Int)} {kn : List Bool} {ds : List DoR} (h : MayOk bl kn ds) (r : Wild ds) : Tame ds :=
  ⟨r.in64, fun d hd => Nat.le_trans (h.smallD d hd) (by decide), h.done⟩
set_option maxRecDepth 100000 in
set_option maxHeartbeats 4000000 in
theorem may_walk (w : World) (s : Nat) (bl : List (List Int)) (kn : List Bool) (A : Option Addr) (c : Nat) (ds : List DoR) (hR : Raw w s bl kn) (hC : Scr w A ds) (hW : Wild ds) :
    Calls Try.prog 8 #[.pointer (some ⟨s, 0, none⟩), .slice A ds.length c] w (fun e w' => (∃ b, e = .returned (.bool b) ∧ (b = true → MayOk bl kn ds)) ∧ Below w.heap.size w w') := by
  obtain ⟨AB, cB, hB, hRB⟩ := hR.blocks
  obtain ⟨AK, cK, hK, hRK⟩ := hR.known
  have lB := hR.lenB
  have lK := hR.lenK
  have lD := hW.few
  have hb := hR.small
  replace hRB := Lib.hid hRB
  replace hRK := Lib.hid hRK
  replace hC := Lib.hid hC
  replace hW := Lib.hid hW
  replace hR := Lib.hid hR
  by_cases h1 : bl.length = kn.length
  · rw [h1] at hB lB
    replace h1 := Lib.hid h1
    replace hb := Lib.hid hb
    by_cases h2 : kn.length ≤ 300
    · have e2 : decide ((300 : Int) < (kn.length : Int)) = false := by simp; omega
      by_cases h3 : ds.length ≤ 100
      · have e3 : decide ((100 : Int) < (ds.length : Int)) = false := by simp; omega
        go_enter Try.func8, Try.ntmps8
        go_wp2_with fail
        go_quiet (fail)
        go_wp2_with fail
        go_loopg [5, 6] kn.length (fun gh v i wr => wr = w.drewN nq ∧ ∃ (k tot : Nat), k ≤ kn.length ∧ gh = kn.length - k ∧ v = .int .i64 tot ∧ i = .int .i64 k ∧ tot ≤ 131072 ∧ ∀ j, j < k → (bl.getD j []).length ≤ 131072)
        case atStart => exact ⟨rfl, 0, 0, by omega, rfl, rfl, rfl, by omega, fun j hj => absurd hj (by omega)⟩
        case round =>
          obtain ⟨rfl, k, tot, hk, hgk, rfl, rfl, htot, hpre⟩ := hrel
          by_cases hlt : k < kn.length
          · obtain ⟨x, v, rfl, hc, hv⟩ := hRB.out k (by rw [h1.out]; exact hlt)
            obtain ⟨Ab, cb, rfl, hcb, _⟩ := hv.slice
            have hsm := hb.out k (by rw [h1.out]; exact hlt)
            obtain ⟨ln, hln⟩ : ∃ ln, ln = (bl.getD k []).length := ⟨_, rfl⟩
            rw [← hln] at hsm hc hcb
            by_cases hover : tot + ln ≤ 131072
            · have hpre' : ∀ j, j < k + 1 → (bl.getD j []).length ≤ 131072 := by
                intro j hj
                rcases Nat.lt_or_ge j k with h | h
                · exact hpre j h
                · obtain rfl : j = k := by omega
                  omega
              replace hpre' := Lib.hid hpre'
              clear hpre hv hln
              go_wp2_with fail
              go_roundg (kn.length - (k + 1))
              case measure => omega
              case rel => exact ⟨rfl, k + 1, tot + ln, by omega, rfl, by go_num, by go_num, by omega, hpre'.out⟩
            · clear hpre hv hln
              go_wp2_with fail
              go_ret
              exact ⟨⟨false, rfl, fun h => by cases h⟩, (Drawn0.mk ⟨nq, rfl⟩ : Drawn0 w (w.drewN nq)).below⟩
          · obtain rfl : k = kn.length := by omega
            replace hpre := Lib.hid hpre
            go_wp2_with fail
            go_loopg [5, 7] ds.length (fun gh v i wr => wr = w.drewN nq ∧ ∃ (k tot : Nat), k ≤ ds.length ∧ gh = ds.length - k ∧ v = .int .i64 tot ∧ i = .int .i64 k ∧ tot ≤ 131072 ∧ ∀ d ∈ ds.take k, d.bs.length ≤ 131072)
            case atStart => exact ⟨rfl, 0, tot, by omega, rfl, rfl, rfl, by omega, fun d hd => by simp at hd⟩
            case round =>
              obtain ⟨rfl, k, tot, hk, hgk, rfl, rfl, htot, hpre2⟩ := hrel
              by_cases hlt2 : k < ds.length
              · obtain ⟨d, hd⟩ : ∃ d, ds[k]? = some d := ⟨_, List.getElem?_eq_getElem hlt2⟩
                obtain ⟨x, v, rfl, _, _, hc, hv⟩ := hC.out k d hd
                obtain ⟨Ab, cb, rfl, hcb, _⟩ := hv.slice
                have hsm := hW.out.small d (List.mem_of_getElem? hd)
                obtain ⟨ln, hln⟩ : ∃ ln, ln = d.bs.length := ⟨_, rfl⟩
                rw [← hln] at hsm hc hcb
                by_cases hover : tot + ln ≤ 131072
                · have hpre' : ∀ d ∈ ds.take (k + 1), d.bs.length ≤ 131072 := by
                    intro d' hd'
                    rw [List.take_add_one, hd] at hd'
                    simp only [Option.toList, List.mem_append, List.mem_singleton] at hd'
                    rcases hd' with h | rfl
                    · exact hpre2 d' h
                    · omega
                  replace hpre' := Lib.hid hpre'
                  clear hpre2 hv hln hd
                  go_wp2_with fail
                  go_roundg (ds.length - (k + 1))
                  case measure => omega
                  case rel => exact ⟨rfl, k + 1, tot + ln, by omega, rfl, by go_num, by go_num, by omega, hpre'.out⟩
                · clear hpre2 hv hln hd
                  go_wp2_with fail
                  go_ret
                  exact ⟨⟨false, rfl, fun h => by cases h⟩, (Drawn0.mk ⟨nq, rfl⟩ : Drawn0 w (w.drewN nq)).below⟩
              · obtain rfl : k = ds.length := by omega
                have hok : MayOk bl kn ds := ⟨h1.out, by rw [h1.out]; exact h2, h3, fun i hi => hpre.out i (by rw [← h1.out]; exact hi), fun d hd => hpre2 d (by rw [List.take_length]; exact hd)⟩
                clear hpre2
                go_wp2_with fail
                go_ret
                exact ⟨⟨true, rfl, fun _ => hok⟩, (Drawn0.mk ⟨nq, rfl⟩ : Drawn0 w (w.drewN nq)).below⟩
      · have e3 : decide ((100 : Int) < (ds.length : Int)) = true := by simp; omega
        go_enter Try.func8, Try.ntmps8
        go_wp2_with fail
        go_quiet (fail)
        go_wp2_with fail
        go_ret
        exact ⟨⟨false, rfl, fun h => by cases h⟩, (Drawn0.mk ⟨nq, rfl⟩ : Drawn0 w (w.drewN nq)).below⟩
    · have e2 : decide ((300 : Int) < (kn.length : Int)) = true := by simp; omega
      go_enter Try.func8, Try.ntmps8
      go_wp2_with fail
      go_quiet (fail)
      go_wp2_with fail
      go_ret
      exact ⟨⟨false, rfl, fun h => by cases h⟩, (Drawn0.mk ⟨nq, rfl⟩ : Drawn0 w (w.drewN nq)).below⟩
  · have e1 : ((bl.length : Int) != (kn.length : Int)) = true := by rw [bne_iff_ne]; intro h; exact h1 (by omega)
    go_enter Try.func8, Try.ntmps8
    go_wp2_with fail
    go_quiet (fail)
    go_wp2_with fail
    go_ret
    exact ⟨⟨false, rfl, fun h => by cases h⟩, (Drawn0.mk ⟨nq, rfl⟩ : Drawn0 w (w.drewN nq)).below⟩
end Go.Proofs.Ythaipkfaaojppaa.Vw
