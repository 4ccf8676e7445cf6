/- The plain law: what reticentref01 says of a lattice is what package lattice says of it. -/
import Derived.Test.YtmcafcgbbhcjhaaDoorRefH
import Derived.Test.YtmcafcgbbhcjhaaDoorRefI
import Derived.Test.YtmcafcgbbhcjhaaDoorRefJ
namespace Go.Proofs.YtmcafcgbbhcjhaaDoor
open Go.RowKit Go.Shelf Go.Proofs.YtmcafcgbbhcjhaaDoorW.PrintWords
attribute [local go_sem] Oper.semAt_some

theorem may_names' {L : Lat} (h : mayB L = true) : L.names.length = L.up.length := by
  unfold mayB at h
  simp only [Bool.and_eq_true, decide_eq_true_eq] at h
  exact h.1.2
theorem testBit_zero_of_small {x n k : Nat} (h : x / 2 ^ n = 0) (hk : n ≤ k) : x.testBit k = false := by
  have h2 : 0 < 2 ^ n := Nat.two_pow_pos n
  have hx : x < 2 ^ n := (Nat.div_eq_zero_iff_lt h2).1 h
  exact Nat.testBit_lt_two_pow (Nat.lt_of_lt_of_le hx (Nat.pow_le_pow_right (by omega) hk))
theorem upAt_zero {L : Lat} {a : Nat} (h : L.up.length ≤ a) : upAt L a = 0 := by
  unfold upAt nth
  rw [List.getD_eq_getElem?_getD, List.getElem?_eq_none h]
  rfl
theorem may_small {L : Lat} (h : mayB L = true) (a k : Nat) (hk : L.up.length ≤ k) : flowsB L a k = false := by
  unfold flowsB
  by_cases ha : a < L.up.length
  · have hn := may_names' h
    unfold mayB at h
    simp only [Bool.and_eq_true, decide_eq_true_eq, List.all_eq_true, List.mem_range] at h
    have := h.2 a (by omega)
    unfold okAt at this
    simp only [Bool.and_eq_true, decide_eq_true_eq] at this
    exact testBit_zero_of_small this.2 hk
  · rw [upAt_zero (by omega)]
    simp
theorem subB_iff (x y : Nat) : subB x y = true ↔ ∀ k, x.testBit k = true → y.testBit k = true := by
  unfold subB
  rw [decide_eq_true_eq]
  constructor
  · intro h k hx
    have : (x &&& y).testBit k = true := by rw [h]; exact hx
    rw [Nat.testBit_and, Bool.and_eq_true] at this
    exact this.2
  · intro h
    apply Nat.eq_of_testBit_eq
    intro k
    rw [Nat.testBit_and]
    cases hx : x.testBit k with
    | false => rfl
    | true => rw [h k hx]; rfl
/-- What both say of an order. -/
structure Ordered (L : Lat) : Prop where
  refl : ∀ a, a < L.up.length → flowsB L a a = true
  anti : ∀ a b, a < L.up.length → b < L.up.length → a ≠ b → ¬ (flowsB L a b = true ∧ flowsB L b a = true)
  trans : ∀ a b c, a < L.up.length → b < L.up.length → c < L.up.length → flowsB L a b = true → flowsB L b c = true → flowsB L a c = true
theorem rOrder_iff (L : Lat) : rOrderB L = true ↔ Ordered L := by
  unfold rOrderB
  simp only [List.all_eq_true, List.mem_range, ordA, ordB, ordC, Bool.and_eq_true, Bool.not_eq_true', Bool.and_eq_false_iff, Bool.not_eq_false', decide_eq_true_eq]
  constructor
  · intro h
    refine ⟨fun a ha => (h a ha).1, fun a b ha hb hne hh => ?_, fun a b c ha hb hc h1 h2 => ?_⟩
    · rcases ((h a ha).2 b hb).1 with (e | e) | e
      · exact hne e
      · rw [e] at hh; exact absurd hh.1 (by simp)
      · rw [e] at hh; exact absurd hh.2 (by simp)
    · rcases ((h a ha).2 b hb).2 c hc with (e | e) | e
      · rw [e] at h1; cases h1
      · rw [e] at h2; cases h2
      · exact e
  · rintro ⟨h1, h2, h3⟩ a ha
    refine ⟨h1 a ha, fun b hb => ⟨?_, fun c hc => ?_⟩⟩
    · by_cases e : a = b
      · exact .inl (.inl e)
      · cases e1 : flowsB L a b with
        | false => exact .inl (.inr rfl)
        | true => cases e2 : flowsB L b a with
          | false => exact .inr rfl
          | true => exact absurd ⟨e1, e2⟩ (h2 a b ha hb e)
    · cases e1 : flowsB L a b with
      | false => exact .inl (.inl rfl)
      | true => cases e2 : flowsB L b c with
        | false => exact .inl (.inr rfl)
        | true => exact .inr (h3 a b c ha hb hc e1 e2)
theorem mem_prs (n : Nat) (x : Nat × Nat) : x ∈ prs n n 0 ↔ x.1 < n ∧ x.2 < n := by
  simp only [prs, List.mem_append, List.mem_flatMap, List.mem_range, List.mem_map]
  constructor
  · rintro (⟨a, ha, b, hb, rfl⟩ | ⟨b, hb, rfl⟩)
    · exact ⟨ha, hb⟩
    · omega
  · intro h
    exact .inl ⟨x.1, h.1, x.2, h.2, rfl⟩
theorem pairBad_iff (L : Lat) (a b : Nat) : pairBad L a b = false ↔ (a = b → flowsB L a b = true) ∧ (a ≠ b → ¬ (flowsB L a b = true ∧ flowsB L b a = true)) ∧ (flowsB L a b = true → subB (upAt L b) (upAt L a) = true) := by
  unfold pairBad
  by_cases e : a = b <;> cases flowsB L a b <;> cases flowsB L b a <;> cases subB (upAt L b) (upAt L a) <;> simp [e]
theorem order_iff {L : Lat} (hm : mayB L = true) : orderB L = true ↔ Ordered L := by
  unfold orderB
  simp only [List.all_eq_true, Bool.not_eq_true']
  constructor
  · intro h
    have h' : ∀ a b, a < L.up.length → b < L.up.length → pairBad L a b = false := fun a b ha hb => h (a, b) ((mem_prs _ _).2 ⟨ha, hb⟩)
    refine ⟨fun a ha => ((pairBad_iff L a a).1 (h' a a ha ha)).1 rfl, fun a b ha hb => ((pairBad_iff L a b).1 (h' a b ha hb)).2.1, fun a b c ha hb hc h1 h2 => ?_⟩
    have := (subB_iff _ _).1 (((pairBad_iff L a b).1 (h' a b ha hb)).2.2 h1) c h2
    exact this
  · rintro ⟨h1, h2, h3⟩ ⟨a, b⟩ hx
    obtain ⟨ha, hb⟩ := (mem_prs _ _).1 hx
    refine (pairBad_iff L a b).2 ⟨fun e => ?_, h2 a b ha hb, fun hf => (subB_iff _ _).2 fun k hk => ?_⟩
    · subst e; exact h1 a ha
    · by_cases hkn : k < L.up.length
      · exact h3 a b k ha hb hkn hf hk
      · have : flowsB L b k = false := may_small hm b k (by omega)
        unfold flowsB at this
        rw [this] at hk; cases hk
theorem idxOf_range (p : Nat → Bool) (n : Nat) : idxOf p (List.range n) < 0 ↔ ∀ k, k < n → p k = false := by
  rw [idxOf_neg]
  simp only [List.all_eq_true, List.mem_range, Bool.not_eq_true']
theorem idxOf_up (L : Lat) (p : Nat → Bool) : idxOf p L.up < 0 ↔ ∀ k, k < L.up.length → p (upAt L k) = false := by
  rw [idxOf_neg]
  simp only [List.all_eq_true, Bool.not_eq_true']
  constructor
  · intro h k hk
    exact h _ (nth_mem 0 hk)
  · intro h x hx
    obtain ⟨k, hk, rfl⟩ := List.getElem_of_mem hx
    have := h k hk
    rwa [upAt, nth_get 0 hk] at this
theorem lub_iff (L : Lat) (a b c : Nat) : lubB L a b c = true ↔ flowsB L a c = true ∧ flowsB L b c = true ∧ ∀ d, d < L.up.length → flowsB L a d = true → flowsB L b d = true → flowsB L c d = true := by
  unfold lubB lubBOk
  simp only [Bool.and_eq_true, List.all_eq_true, List.mem_range, Bool.not_eq_true', Bool.and_eq_false_iff, Bool.not_eq_false']
  constructor
  · rintro ⟨⟨h1, h2⟩, h3⟩
    refine ⟨h1, h2, fun d hd e1 e2 => ?_⟩
    rcases h3 d hd with (e | e) | e
    · rw [e] at e1; cases e1
    · rw [e] at e2; cases e2
    · exact e
  · rintro ⟨h1, h2, h3⟩
    refine ⟨⟨h1, h2⟩, fun d hd => ?_⟩
    cases e1 : flowsB L a d with
    | false => exact .inl (.inl rfl)
    | true => cases e2 : flowsB L b d with
      | false => exact .inl (.inr rfl)
      | true => exact .inr (h3 d hd e1 e2)
theorem glb_iff (L : Lat) (a b c : Nat) : glbB L a b c = true ↔ flowsB L c a = true ∧ flowsB L c b = true ∧ ∀ d, d < L.up.length → flowsB L d a = true → flowsB L d b = true → flowsB L d c = true := by
  unfold glbB glbBOk
  simp only [Bool.and_eq_true, List.all_eq_true, List.mem_range, Bool.not_eq_true', Bool.and_eq_false_iff, Bool.not_eq_false']
  constructor
  · rintro ⟨⟨h1, h2⟩, h3⟩
    refine ⟨h1, h2, fun d hd e1 e2 => ?_⟩
    rcases h3 d hd with (e | e) | e
    · rw [e] at e1; cases e1
    · rw [e] at e2; cases e2
    · exact e
  · rintro ⟨h1, h2, h3⟩
    refine ⟨⟨h1, h2⟩, fun d hd => ?_⟩
    cases e1 : flowsB L d a with
    | false => exact .inl (.inl rfl)
    | true => cases e2 : flowsB L d b with
      | false => exact .inl (.inr rfl)
      | true => exact .inr (h3 d hd e1 e2)
theorem lub_bits {L : Lat} (hm : mayB L = true) (ho : Ordered L) {a b c : Nat} (ha : a < L.up.length) (hb : b < L.up.length) (hc : c < L.up.length) : lubB L a b c = (upAt L c == upAt L a &&& upAt L b) := by
  rw [Bool.eq_iff_iff, lub_iff, beq_iff_eq]
  constructor
  · rintro ⟨h1, h2, h3⟩
    apply Nat.eq_of_testBit_eq
    intro k
    rw [Nat.testBit_and]
    show flowsB L c k = (flowsB L a k && flowsB L b k)
    by_cases hk : k < L.up.length
    · cases e : flowsB L c k with
      | true => rw [ho.trans a c k ha hc hk h1 e, ho.trans b c k hb hc hk h2 e]; rfl
      | false => cases e1 : flowsB L a k with
        | false => rfl
        | true => cases e2 : flowsB L b k with
          | false => rfl
          | true => rw [h3 k hk e1 e2] at e; cases e
    · rw [may_small hm c k (by omega), may_small hm a k (by omega)]; rfl
  · intro h
    have hbit : ∀ k, flowsB L c k = (flowsB L a k && flowsB L b k) := fun k => by
      show (upAt L c).testBit k = ((upAt L a).testBit k && (upAt L b).testBit k)
      rw [h, Nat.testBit_and]
    have hr := ho.refl c hc
    rw [hbit c, Bool.and_eq_true] at hr
    exact ⟨hr.1, hr.2, fun d _ e1 e2 => by rw [hbit d, e1, e2]; rfl⟩
theorem downN_bit (L : Lat) (a i : Nat) : (downN L a).testBit i = (decide (i < L.up.length) && flowsB L i a) := downTo_bit L a _ i
theorem glb_bits {L : Lat} (ho : Ordered L) {a b c : Nat} (ha : a < L.up.length) (hb : b < L.up.length) (hc : c < L.up.length) : glbB L a b c = (downN L c == downN L a &&& downN L b) := by
  rw [Bool.eq_iff_iff, glb_iff, beq_iff_eq]
  constructor
  · rintro ⟨h1, h2, h3⟩
    apply Nat.eq_of_testBit_eq
    intro k
    rw [Nat.testBit_and, downN_bit, downN_bit, downN_bit]
    by_cases hk : k < L.up.length
    · simp only [hk, decide_true, Bool.true_and]
      cases e : flowsB L k c with
      | true => rw [ho.trans k c a hk hc ha e h1, ho.trans k c b hk hc hb e h2]; rfl
      | false => cases e1 : flowsB L k a with
        | false => rfl
        | true => cases e2 : flowsB L k b with
          | false => rfl
          | true => rw [h3 k hk e1 e2] at e; cases e
    · simp [hk]
  · intro h
    have hbit : ∀ k, k < L.up.length → flowsB L k c = (flowsB L k a && flowsB L k b) := fun k hk => by
      have := congrArg (fun x => x.testBit k) h
      simp only [Nat.testBit_and, downN_bit, hk, decide_true, Bool.true_and] at this
      exact this
    have hr := ho.refl c hc
    rw [hbit c hc, Bool.and_eq_true] at hr
    exact ⟨hr.1, hr.2, fun d hd e1 e2 => by rw [hbit d hd, e1, e2]; rfl⟩
theorem join_same {L : Lat} (hm : mayB L = true) (ho : Ordered L) {a b : Nat} (ha : a < L.up.length) (hb : b < L.up.length) : rJoinI L a b < 0 ↔ joinI L a b < 0 := by
  unfold rJoinI joinI
  rw [idxOf_range, idxOf_up]
  constructor
  · intro h k hk
    rw [← lub_bits hm ho ha hb hk]; exact h k hk
  · intro h k hk
    rw [lub_bits hm ho ha hb hk]; exact h k hk
theorem meet_same {L : Lat} (ho : Ordered L) {a b : Nat} (ha : a < L.up.length) (hb : b < L.up.length) : rMeetI L a b < 0 ↔ meetI L a b < 0 := by
  unfold rMeetI meetI
  rw [idxOf_range, idxOf_range]
  constructor
  · intro h k hk
    rw [← glb_bits ho ha hb hk]; exact h k hk
  · intro h k hk
    rw [glb_bits ho ha hb hk]; exact h k hk
def rPairOk (L : Lat) (a b : Nat) : Bool := !(decide (rJoinI L a b < 0) || decide (rMeetI L a b < 0))
def rRowOk (L : Lat) (a : Nat) : Bool := (List.range L.up.length).all (rPairOk L a)
def rJoinsB (L : Lat) : Bool := (List.range L.up.length).all (rRowOk L)
def rCheckE (L : Lat) : Int := if mayB L = true then (if rOrderB L = true then (if rJoinsB L = true then 0 else 3) else 2) else 1
theorem joins_same {L : Lat} (hm : mayB L = true) (ho : Ordered L) : rJoinsB L = joinsB L := by
  rw [Bool.eq_iff_iff]
  unfold rJoinsB joinsB rRowOk
  simp only [List.all_eq_true, List.mem_range]
  constructor
  · rintro h ⟨a, b⟩ hx
    obtain ⟨ha, hb⟩ := (mem_prs _ _).1 hx
    have := h a ha b hb
    unfold rPairOk at this
    unfold joinBad
    simp only [Bool.not_eq_true', Bool.or_eq_false_iff, decide_eq_false_iff_not] at this ⊢
    exact ⟨fun e => this.1 ((join_same hm ho ha hb).2 e), fun e => this.2 ((meet_same ho ha hb).2 e)⟩
  · intro h a ha b hb
    have := h (a, b) ((mem_prs _ _).2 ⟨ha, hb⟩)
    unfold joinBad at this
    unfold rPairOk
    simp only [Bool.not_eq_true', Bool.or_eq_false_iff, decide_eq_false_iff_not] at this ⊢
    exact ⟨fun e => this.1 ((join_same hm ho ha hb).1 e), fun e => this.2 ((meet_same ho ha hb).1 e)⟩
/-- The two checks of a lattice say the same. -/
theorem rCheck_same (L : Lat) : rCheckE L = checkE L := by
  unfold rCheckE checkE
  by_cases hm : mayB L = true
  · rw [if_pos hm, if_pos hm]
    by_cases ho : rOrderB L = true
    · have ho' := (rOrder_iff L).1 ho
      rw [if_pos ho, if_pos ((order_iff hm).2 ho'), joins_same hm ho']
    · rw [if_neg ho, if_neg (fun h => ho ((rOrder_iff L).2 ((order_iff hm).1 h)))]
  · rw [if_neg hm, if_neg hm]
end Go.Proofs.YtmcafcgbbhcjhaaDoor
