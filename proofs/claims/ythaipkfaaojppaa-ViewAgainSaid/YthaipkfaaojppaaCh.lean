/- What the document's Changes, Puts and lists come to. -/
import Derived.Test.YthaipkfaaojppaaV11
import Derived.Test.YthaipkfaaojppaaV7
import Derived.Test.YthaipkfaaojppaaPViewRunsx8
namespace Go.Proofs.Ythaipkfaaojppaa.Vw
open Go.RowKit Go.Proofs.YthaipkfaaojppaaW.PrintWords Go.Proofs.YthaipkfaaojppaaW.PrintLast Go.Proofs.YthaipkfaaojppaaW.PrintMore
open Go.Proofs.Ythaipkfaaojppaa.PViewRuns (S59 z59 rd_T59 rd_L2 oublietteref12_Changes.f oublietteref12_Changes.l0 oublietteref12_Changes.l1 oublietteref12_Changes.l2 oublietteref12_Puts.f oublietteref12_Puts.l0 oubliettelaw12_lists.f oubliettelaw12_lists.l0 oublietteref01_Bytes.f oublietteref01_Bytes.mono)
set_option linter.unusedVariables false
/-- What puts leave, the last at a slot. -/
def fQ : List S59 → Int → Option (List Int)
  | [], _ => none
  | p :: r, x => match fQ r x with
    | some b => some b
    | none => if x = p.f0 then some p.f1 else none
theorem fQ_cons (p : S59) (r : List S59) (x : Int) : fQ (p :: r) x = (match fQ r x with | some b => some b | none => if x = p.f0 then some p.f1 else none) := rfl
theorem fQ_snoc (l : List S59) (p : S59) : fQ (l ++ [p]) = updO (fQ l) p.f0 p.f1 := by
  funext x
  induction l with
  | nil => simp [fQ, updO]
  | cons q r ih =>
    simp only [List.cons_append, fQ, ih]
    unfold updO
    by_cases e : x = p.f0 <;> simp [e]
def insS (p : S59) : List S59 → List S59
  | [] => [p]
  | x :: r => if x.f0 < p.f0 then x :: insS p r else p :: x :: r
def chS : List S59 → List S59 → List S59
  | [], out => out
  | p :: r, out => chS r (if r.all (fun q => q.f0 != p.f0) then insS p out else out)
theorem rdT {l : List S59} {i : Nat} {p : S59} (h : l[i]? = some p) : rd_T59 l (i : Int) = p := by
  unfold rd_T59
  rw [Int.toNat_natCast, List.getD_eq_getElem?_getD, h]
  rfl
theorem len_insS (p : S59) : ∀ out : List S59, (insS p out).length = out.length + 1
  | [] => rfl
  | x :: r => by
    unfold insS
    split
    · simp [len_insS p r]
    · simp
theorem ch_l2 {l out : List S59} {i : Nat} {p : S59} {r : List S59} (hp : l[i]? = some p) (hlen : l.length ≤ 1000) (hol : out.length ≤ 1000) : ∀ (m a : Nat), a + m = out.length → (∃ k, oublietteref12_Changes.l0 k l (out.take a ++ insS p (out.drop a)) ((i + 1 : Nat) : Int) = some r) → ∃ k, oublietteref12_Changes.l2 k l out i a = some r
  | 0, a, ha, ⟨k, hk⟩ => by
    have hil := (List.getElem?_eq_some_iff.1 hp).1
    refine ⟨k + 1, ?_⟩
    rw [List.drop_eq_nil_of_le (by omega)] at hk
    unfold oublietteref12_Changes.l2
    rw [if_neg (by omega), if_pos (by omega), if_pos (by omega)]
    simp only [Option.bind_some, rdT hp, Int.toNat_natCast]
    rw [if_pos (by omega), if_pos (by omega)]
    simp only [List.nil_append, List.length_append, List.length_take, List.length_drop, List.length_cons, List.length_nil]
    rw [if_pos (by omega), if_pos (by omega), if_pos (by omega), wrap_next hil (by omega), List.drop_eq_nil_of_le (show out.length ≤ a by omega)]
    exact hk
  | m + 1, a, ha, h => by
    have hil := (List.getElem?_eq_some_iff.1 hp).1
    obtain ⟨x, hx⟩ : ∃ x, out[a]? = some x := ⟨_, List.getElem?_eq_getElem (by omega)⟩
    have hd : out.drop a = x :: out.drop (a + 1) := by
      rw [List.drop_eq_getElem_cons (by omega)]
      congr 1
      exact (List.getElem?_eq_some_iff.1 hx).2
    have ht : out.take (a + 1) = out.take a ++ [x] := by rw [List.take_add_one, hx]; rfl
    rw [hd] at h
    unfold insS at h
    by_cases hlt : x.f0 < p.f0
    · rw [if_pos hlt] at h
      obtain ⟨k, hk⟩ := ch_l2 hp hlen hol m (a + 1) (by omega) (by rw [ht, List.append_assoc]; exact h)
      refine ⟨k + 1, ?_⟩
      unfold oublietteref12_Changes.l2
      rw [if_pos (by omega), if_pos (by omega), if_pos (by omega), if_pos (by omega), rdT hx, rdT hp, if_pos hlt, wrap_next (n := out.length) (by omega) (by omega)]
      exact hk
    · rw [if_neg hlt] at h
      obtain ⟨k, hk⟩ := h
      refine ⟨k + 1, ?_⟩
      unfold oublietteref12_Changes.l2
      rw [if_pos (by omega), if_pos (by omega), if_pos (by omega), if_pos (by omega), rdT hx, rdT hp, if_neg hlt]
      simp only [Option.bind_some, Int.toNat_natCast]
      rw [if_pos (by omega)]
      simp only [List.nil_append, List.length_append, List.length_take, List.length_drop, List.length_cons, List.length_nil]
      rw [if_pos (by omega), if_pos (by omega), if_pos (by omega), wrap_next hil (by omega), hd]
      exact hk
theorem ch_l1 {l out : List S59} {i : Nat} {p : S59} {r : List S59} (hp : l[i]? = some p) (hlen : l.length ≤ 1000) (hol : out.length ≤ 1000) : ∀ (m j : Nat) (b : Bool), j + m = l.length →
    (∃ k, oublietteref12_Changes.l0 k l (if b && (l.drop j).all (fun q => q.f0 != p.f0) then insS p out else out) ((i + 1 : Nat) : Int) = some r) → ∃ k, oublietteref12_Changes.l1 k l out i b j = some r
  | 0, j, b, hj, h => by
    have hil := (List.getElem?_eq_some_iff.1 hp).1
    rw [List.drop_eq_nil_of_le (by omega), List.all_nil, Bool.and_true] at h
    cases b with
    | true =>
      rw [if_pos rfl] at h
      obtain ⟨k, hk⟩ := ch_l2 hp hlen hol out.length 0 (by omega) (by simpa using h)
      refine ⟨k + 1, ?_⟩
      unfold oublietteref12_Changes.l1
      rw [if_neg (by omega), if_pos rfl]
      exact hk
    | false =>
      rw [if_neg (by decide)] at h
      obtain ⟨k, hk⟩ := h
      refine ⟨k + 1, ?_⟩
      unfold oublietteref12_Changes.l1
      rw [if_neg (by omega), if_neg (by decide), wrap_next hil (by omega)]
      exact hk
  | m + 1, j, b, hj, h => by
    have hil := (List.getElem?_eq_some_iff.1 hp).1
    obtain ⟨q, hq⟩ : ∃ q, l[j]? = some q := ⟨_, List.getElem?_eq_getElem (by omega)⟩
    have hd : l.drop j = q :: l.drop (j + 1) := by
      rw [List.drop_eq_getElem_cons (by omega)]
      congr 1
      exact (List.getElem?_eq_some_iff.1 hq).2
    rw [hd, List.all_cons] at h
    cases b with
    | true =>
      obtain ⟨k, hk⟩ := ch_l1 hp hlen hol m (j + 1) (q.f0 != p.f0) (by omega) (by simpa using h)
      refine ⟨k + 1, ?_⟩
      unfold oublietteref12_Changes.l1
      rw [if_pos (by omega), if_pos rfl, if_pos (by omega), if_pos (by omega), if_pos (by omega), rdT hq, rdT hp, wrap_next (n := l.length) (by omega) (by omega)]
      exact hk
    | false =>
      obtain ⟨k, hk⟩ := ch_l1 hp hlen hol m (j + 1) false (by omega) (by simpa using h)
      refine ⟨k + 1, ?_⟩
      unfold oublietteref12_Changes.l1
      rw [if_pos (by omega), if_neg (by decide), wrap_next (n := l.length) (by omega) (by omega)]
      exact hk
theorem ch_l0 {l : List S59} (hlen : l.length ≤ 500) : ∀ (m i : Nat) (out : List S59), i + m = l.length → out.length ≤ i → ∃ k, oublietteref12_Changes.l0 k l out i = some (chS (l.drop i) out)
  | 0, i, out, hi, ho => by
    refine ⟨1, ?_⟩
    unfold oublietteref12_Changes.l0
    rw [if_neg (by omega), List.drop_eq_nil_of_le (by omega)]
    rfl
  | m + 1, i, out, hi, ho => by
    obtain ⟨p, hp⟩ : ∃ q, l[i]? = some q := ⟨_, List.getElem?_eq_getElem (by omega)⟩
    have hd : l.drop i = p :: l.drop (i + 1) := by
      rw [List.drop_eq_getElem_cons (by omega)]
      congr 1
      exact (List.getElem?_eq_some_iff.1 hp).2
    rw [hd]
    unfold chS
    obtain ⟨k, hk⟩ := ch_l0 hlen m (i + 1) (if (l.drop (i + 1)).all (fun q => q.f0 != p.f0) then insS p out else out) (by omega) (by
      split
      · rw [len_insS]; omega
      · omega)
    obtain ⟨k1, hk1⟩ := ch_l1 (out := out) hp (by omega) (by omega) m (i + 1) true (by omega) ⟨k, by rw [Bool.true_and]; exact hk⟩
    refine ⟨k1 + 1, ?_⟩
    unfold oublietteref12_Changes.l0
    rw [if_pos (by omega), wrap_next (n := l.length) (by omega) (by omega)]
    exact hk1
theorem changes_f (l : List S59) (hlen : l.length ≤ 500) : ∃ k, oublietteref12_Changes.f k l = some (chS l []) := by
  obtain ⟨k, hk⟩ := ch_l0 hlen l.length 0 [] (by omega) (by simp)
  exact ⟨k, hk⟩
theorem fQ_none {x : Int} : ∀ {l : List S59}, fQ l x = none ↔ ∀ q ∈ l, q.f0 ≠ x
  | [] => by simp [fQ]
  | p :: r => by
    have ih := fQ_none (x := x) (l := r)
    unfold fQ
    cases h : fQ r x with
    | some b =>
      have : ¬ ∀ q ∈ r, q.f0 ≠ x := fun hh => by rw [ih.2 hh] at h; cases h
      simp only [List.mem_cons, reduceCtorEq, false_iff]
      exact fun hh => this fun q hq => hh q (.inr hq)
    | none =>
      have h2 := ih.1 h
      by_cases e : x = p.f0
      · simp [e]
      · simp only [if_neg e, true_iff]
        intro q hq
        rcases List.mem_cons.1 hq with rfl | hq
        · exact fun hh => e hh.symm
        · exact h2 q hq
abbrev Srt (l : List S59) : Prop := l.Pairwise (fun a b => a.f0 < b.f0)
theorem mem_insS (p q : S59) : ∀ out : List S59, q ∈ insS p out ↔ q = p ∨ q ∈ out
  | [] => by simp [insS]
  | x :: r => by
    unfold insS
    have ih := mem_insS p q r
    split
    · rw [List.mem_cons, ih, List.mem_cons]
      constructor
      · rintro (h | h | h)
        · exact .inr (.inl h)
        · exact .inl h
        · exact .inr (.inr h)
      · rintro (h | h | h)
        · exact .inr (.inl h)
        · exact .inl h
        · exact .inr (.inr h)
    · simp
theorem srt_insS (p : S59) : ∀ out : List S59, Srt out → (∀ q ∈ out, q.f0 ≠ p.f0) → Srt (insS p out)
  | [], _, _ => by simp [insS, Srt]
  | x :: r, hs, hn => by
    obtain ⟨h1, h2⟩ := List.pairwise_cons.1 hs
    unfold insS
    have hx := hn x (List.mem_cons_self ..)
    split
    · rename_i hlt
      refine List.pairwise_cons.2 ⟨fun q hq => ?_, srt_insS p r h2 (fun q hq => hn q (List.mem_cons_of_mem _ hq))⟩
      rcases (mem_insS p q r).1 hq with rfl | hq
      · exact hlt
      · exact h1 q hq
    · rename_i hlt
      refine List.pairwise_cons.2 ⟨fun q hq => ?_, hs⟩
      rcases List.mem_cons.1 hq with rfl | hq
      · omega
      · have := h1 q hq
        omega
theorem S59.eq {p q : S59} (h0 : p.f0 = q.f0) (h1 : p.f1 = q.f1) : p = q := by
  cases p
  cases q
  simp_all
theorem chS_facts : ∀ (l out : List S59), Srt out → (∀ q ∈ out, ∀ p ∈ l, q.f0 ≠ p.f0) → Srt (chS l out) ∧ ∀ q, q ∈ chS l out ↔ (q ∈ out ∨ fQ l q.f0 = some q.f1)
  | [], out, hs, _ => ⟨hs, fun q => by simp [chS, fQ]⟩
  | p :: r, out, hs, hn => by
    unfold chS
    by_cases ha : r.all (fun q => q.f0 != p.f0) = true
    · rw [if_pos ha]
      have ha' : ∀ q ∈ r, q.f0 ≠ p.f0 := fun q hq => by have := List.all_eq_true.1 ha q hq; simpa using this
      have hq0 : fQ r p.f0 = none := fQ_none.2 ha'
      obtain ⟨h1, h2⟩ := chS_facts r (insS p out) (srt_insS p out hs (fun q hq => hn q hq p (List.mem_cons_self ..))) (fun q hq p' hp' => by
        rcases (mem_insS p q out).1 hq with rfl | hq
        · exact fun e => ha' p' hp' e.symm
        · exact hn q hq p' (List.mem_cons_of_mem _ hp'))
      refine ⟨h1, fun q => ?_⟩
      rw [h2 q, mem_insS, fQ_cons]
      by_cases e : q.f0 = p.f0
      · rw [e, hq0]
        simp only [if_true, Option.some.injEq, reduceCtorEq, or_false]
        constructor
        · rintro (h | h)
          · exact .inr (by rw [h])
          · exact .inl h
        · rintro (h | h)
          · exact .inr h
          · exact .inl (S59.eq e h.symm)
      · have hne : q ≠ p := fun h => e (by rw [h])
        cases hf : fQ r q.f0 with
        | none => simp [e, hne]
        | some b => simp [hne]
    · rw [if_neg ha]
      obtain ⟨h1, h2⟩ := chS_facts r out hs (fun q hq p' hp' => hn q hq p' (List.mem_cons_of_mem _ hp'))
      refine ⟨h1, fun q => ?_⟩
      rw [h2 q]
      have hne : fQ r p.f0 ≠ none := fun h => ha (List.all_eq_true.2 fun q hq => by have := fQ_none.1 h q hq; simpa using this)
      have : fQ (p :: r) q.f0 = fQ r q.f0 := by
        show (match fQ r q.f0 with | some b => some b | none => if q.f0 = p.f0 then some p.f1 else none) = _
        cases hf : fQ r q.f0 with
        | some b => rfl
        | none =>
          by_cases e : q.f0 = p.f0
          · exact absurd (by rw [← e]; exact hf) hne
          · simp [e]
      rw [this]
theorem srt_ext : ∀ {a b : List S59}, Srt a → Srt b → (∀ q, q ∈ a ↔ q ∈ b) → a = b
  | [], [], _, _, _ => rfl
  | [], y :: b, _, _, h => absurd ((h y).2 (List.mem_cons_self ..)) (by simp)
  | x :: a, [], _, _, h => absurd ((h x).1 (List.mem_cons_self ..)) (by simp)
  | x :: a, y :: b, ha, hb, h => by
    obtain ⟨a1, a2⟩ := List.pairwise_cons.1 ha
    obtain ⟨b1, b2⟩ := List.pairwise_cons.1 hb
    have hxy : x = y := by
      rcases List.mem_cons.1 ((h x).1 (List.mem_cons_self ..)) with e | hx
      · exact e
      · rcases List.mem_cons.1 ((h y).2 (List.mem_cons_self ..)) with e | hy
        · exact e.symm
        · have := b1 x hx
          have := a1 y hy
          omega
    subst hxy
    congr 1
    refine srt_ext a2 b2 fun q => ?_
    constructor
    · intro hq
      rcases List.mem_cons.1 ((h q).1 (List.mem_cons_of_mem _ hq)) with rfl | hq'
      · have := a1 q hq
        omega
      · exact hq'
    · intro hq
      rcases List.mem_cons.1 ((h q).2 (List.mem_cons_of_mem _ hq)) with rfl | hq'
      · have := b1 q hq
        omega
      · exact hq'
theorem chS_put {l : List S59} {ks : List Int} (hK : KeysOf (fQ l) ks) (hin : ∀ p ∈ l, In64 p.f0) : chS l [] = putL (fQ l) ks := by
  obtain ⟨h1, h2⟩ := chS_facts l [] List.Pairwise.nil (by simp)
  refine srt_ext h1 ?_ fun q => ?_
  · unfold putL
    exact List.pairwise_map.2 hK.sorted
  · rw [h2 q]
    simp only [List.not_mem_nil, false_or]
    unfold putL
    rw [List.mem_map]
    constructor
    · intro hq
      have hi : In64 q.f0 := by
        refine Classical.byContradiction fun hn => ?_
        have : fQ l q.f0 = none := fQ_none.2 fun p hp e => hn (by rw [← e]; exact hin p hp)
        rw [this] at hq
        cases hq
      exact ⟨q.f0, (hK.mem q.f0 hi).2 (by rw [hq]; simp), by rw [hq]; rfl⟩
    · rintro ⟨x, hx, rfl⟩
      have hne := (hK.mem x (hK.in64 x hx)).1 hx
      show fQ l x = some ((fQ l x).getD [])
      cases hf : fQ l x with
      | none => exact absurd hf hne
      | some b => rfl
theorem bytes_any {k : Nat} {x : List Int} (h : x.length < k) (hm : x.length ≤ 9223372036854775807) : oublietteref01_Bytes.f k x x = some true := by
  unfold oublietteref01_Bytes.f
  rw [if_pos rfl]
  have := bytes_l0 x x rfl hm k 0 (by omega) (by omega)
  rw [decide_eq_true rfl] at this
  exact this
theorem puts_l0 {l : List S59} {B : Nat} (hB : ∀ p ∈ l, p.f1.length ≤ B) (hB2 : B ≤ 9223372036854775807) (hl : l.length ≤ 1000) : ∀ m i : Nat, i + m = l.length → oublietteref12_Puts.l0 (B + 1 + m) l l i = some true
  | 0, i, h => by
    unfold oublietteref12_Puts.l0
    rw [if_neg (by omega)]
  | m + 1, i, h => by
    obtain ⟨p, hp⟩ : ∃ q, l[i]? = some q := ⟨_, List.getElem?_eq_getElem (by omega)⟩
    have hb := hB p (List.mem_of_getElem? hp)
    show oublietteref12_Puts.l0 ((B + 1 + m) + 1) l l i = _
    unfold oublietteref12_Puts.l0
    rw [if_pos (by omega), if_pos (by omega), if_pos (by omega), rdT hp, if_pos rfl, bytes_any (by omega) (by omega), Option.bind_some, if_pos rfl, wrap_next (n := l.length) (by omega) (by omega)]
    exact puts_l0 hB hB2 hl m (i + 1) (by omega)
theorem puts_f {l : List S59} {B : Nat} (hB : ∀ p ∈ l, p.f1.length ≤ B) (hB2 : B ≤ 9223372036854775807) (hl : l.length ≤ 1000) : oublietteref12_Puts.f (B + 1 + l.length) l l = some true := by
  unfold oublietteref12_Puts.f
  rw [if_pos rfl]
  exact puts_l0 hB hB2 hl l.length 0 (by omega)
theorem lists_l0 {l : List (List Int)} {B : Nat} (hB : ∀ p ∈ l, p.length ≤ B) (hB2 : B ≤ 9223372036854775807) (hl : l.length ≤ 1000) : ∀ m i : Nat, i + m = l.length → oubliettelaw12_lists.l0 (B + 1 + m) l l i = some true
  | 0, i, h => by
    unfold oubliettelaw12_lists.l0
    rw [if_neg (by omega)]
  | m + 1, i, h => by
    obtain ⟨p, hp⟩ : ∃ q, l[i]? = some q := ⟨_, List.getElem?_eq_getElem (by omega)⟩
    have hb := hB p (List.mem_of_getElem? hp)
    have hrd : rd_L2 l (i : Int) = p := by
      unfold rd_L2
      rw [Int.toNat_natCast, List.getD_eq_getElem?_getD, hp]
      rfl
    show oubliettelaw12_lists.l0 ((B + 1 + m) + 1) l l i = _
    unfold oubliettelaw12_lists.l0
    rw [if_pos (by omega), if_pos (by omega), if_pos (by omega), hrd, bytes_any (by omega) (by omega), Option.bind_some, if_pos rfl, wrap_next (n := l.length) (by omega) (by omega)]
    exact lists_l0 hB hB2 hl m (i + 1) (by omega)
theorem lists_f {l : List (List Int)} {B : Nat} (hB : ∀ p ∈ l, p.length ≤ B) (hB2 : B ≤ 9223372036854775807) (hl : l.length ≤ 1000) : oubliettelaw12_lists.f (B + 1 + l.length) l l = some true := by
  unfold oubliettelaw12_lists.f
  rw [if_pos rfl]
  exact lists_l0 hB hB2 hl l.length 0 (by omega)
end Go.Proofs.Ythaipkfaaojppaa.Vw
