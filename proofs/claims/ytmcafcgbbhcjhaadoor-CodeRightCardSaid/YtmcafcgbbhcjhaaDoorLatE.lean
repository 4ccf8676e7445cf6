/- lattice: which orders are orders. -/
import Derived.Test.YtmcafcgbbhcjhaaDoorLatD
namespace Go.Proofs.YtmcafcgbbhcjhaaDoor
open Go.RowKit Go.Shelf Go.Proofs.YtmcafcgbbhcjhaaDoorW.PrintWords
attribute [local go_sem] Oper.semAt_some

/-- One number's bits are among another's. -/
def subB (x y : Nat) : Bool := decide (x &&& y = x)
theorem u32_andNot (x y : Nat) (hx : x < 4294967296) (_hy : y < 4294967296) : (bits .andNot .u32 (x : Int) (y : Int) != 0) = !subB x y := by
  have h : bits .andNot .u32 (x : Int) (y : Int) = (((BitVec.ofNat 32 x &&& ~~~ (BitVec.ofNat 32 y)).toNat : Nat) : Int) := by
    show IntKind.u32.wrap ((BitVec.ofInt 32 (x : Int) &&& ~~~ (BitVec.ofInt 32 (y : Int))).toNat : Int) = _
    rw [BitVec.ofInt_natCast, BitVec.ofInt_natCast]
    have := (BitVec.ofNat 32 x &&& ~~~ (BitVec.ofNat 32 y)).isLt
    generalize (BitVec.ofNat 32 x &&& ~~~ (BitVec.ofNat 32 y)).toNat = m at *
    simp only [IntKind.wrap]
    simp [IntKind.signed, IntKind.bits]
    omega
  rw [h]
  unfold subB
  have key : (BitVec.ofNat 32 x &&& ~~~ (BitVec.ofNat 32 y)).toNat = 0 ↔ x &&& y = x := by
    rw [show (0 : Nat) = (0#32).toNat from rfl, BitVec.toNat_inj]
    have bx : ∀ i, i < 32 → (BitVec.ofNat 32 x).getLsbD i = x.testBit i := fun i hi => by rw [BitVec.getLsbD_ofNat]; simp [hi]
    have by_ : ∀ i, i < 32 → (BitVec.ofNat 32 y).getLsbD i = y.testBit i := fun i hi => by rw [BitVec.getLsbD_ofNat]; simp [hi]
    constructor
    · intro h
      apply Nat.eq_of_testBit_eq
      intro i
      rw [Nat.testBit_and]
      by_cases hi : i < 32
      · have h2 := congrArg (fun v => v.getLsbD i) h
        simp only [BitVec.getLsbD_and, BitVec.getLsbD_not, bx i hi, by_ i hi, hi, decide_true, Bool.true_and, BitVec.getLsbD_zero] at h2
        cases hx2 : x.testBit i <;> cases hy2 : y.testBit i <;> simp_all
      · have : x.testBit i = false := Nat.testBit_lt_two_pow (Nat.lt_of_lt_of_le (show x < 2 ^ 32 by omega) (Nat.pow_le_pow_right (by omega) (by omega)))
        simp [this]
    · intro h
      apply BitVec.eq_of_getLsbD_eq
      intro i hi
      have h2 := congrArg (fun v => v.testBit i) h
      simp only [Nat.testBit_and] at h2
      simp only [BitVec.getLsbD_and, BitVec.getLsbD_not, bx i hi, by_ i hi, hi, decide_true, Bool.true_and, BitVec.getLsbD_zero]
      cases hx2 : x.testBit i <;> cases hy2 : y.testBit i <;> simp_all
  by_cases e : x &&& y = x
  · rw [key.2 e, decide_eq_true e]; rfl
  · rw [decide_eq_false e]
    have : (BitVec.ofNat 32 x &&& ~~~ (BitVec.ofNat 32 y)).toNat ≠ 0 := fun h => e (key.1 h)
    rw [Bool.not_false, bne_iff_ne]
    omega
theorem subB_self (x : Nat) : subB x x = true := by simp [subB]

/-- What is wrong with two labels. -/
def pairBad (L : Lat) (a b : Nat) : Bool := (decide (a = b) && !flowsB L a b) || (!decide (a = b) && flowsB L a b && flowsB L b a) || (flowsB L a b && !subB (upAt L b) (upAt L a))
def orderB (L : Lat) : Bool := (prs L.up.length L.up.length 0).all fun x => !pairBad L x.1 x.2

/-- A box with a lattice, and one behind it. -/
def LB (w : World) (n u v : Value) (W : World) : Prop :=
  W.cell? ⟨w.heap.size, 0, none⟩ = some n ∧ W.cell? ⟨w.heap.size, 1, none⟩ = some u ∧ W.cell? ⟨w.heap.size + 1, 0, none⟩ = some v ∧ W.frozen? ⟨w.heap.size + 1, 0, none⟩ = false ∧ w.heap.size + 1 < W.heap.size
theorem LB.next {w W W' : World} {n u v : Value} (h : LB w n u v W) (hb : Below W.heap.size W W') : LB w n u v W' := by
  obtain ⟨h0, h1, h2, h3, h4⟩ := h
  exact ⟨(hb.cell (p := ⟨w.heap.size, 0, none⟩) (by simp; omega)).trans h0, (hb.cell (p := ⟨w.heap.size, 1, none⟩) (by simp; omega)).trans h1, (hb.cell (p := ⟨w.heap.size + 1, 0, none⟩) (by simp; omega)).trans h2, (hb.frozen (p := ⟨w.heap.size + 1, 0, none⟩) (by simp; omega)).trans h3, Nat.lt_of_lt_of_le h4 hb.size⟩
theorem keepsOthers_of_below {W W' : World} (h : Below W.heap.size W W') : KeepsOthers W W' := KeepsOthers.of_grownBy (grown_of_below h none) (fun _ _ e => by cases e)

theorem flows_is {w : World} {An Au : Option Addr} {cn cu : Nat} {L : Lat} (hL : LatAt w An cn Au cu L) {a b : Nat} (ha : a < L.up.length) (_hb : b < L.up.length) {v : Bool} (hv : flowsB L a b = v) :
    Calls Tryd.prog 89 #[.agg #[.slice An L.names.length cn, .slice Au L.up.length cu], .int .i64 (a : Int), .int .i64 (b : Int)] w fun e w' => e = .returned (.bool v) ∧ Below w.heap.size w w' :=
  (flows_any hL (a : Int) (b : Int) (by omega) (by omega) (by omega)).mono fun e w' ⟨he, hb⟩ => ⟨by rw [he, ← hv]; rfl, hb⟩

set_option maxRecDepth 100000 in
set_option maxHeartbeats 4000000 in
theorem order_any {w : World} {An Au : Option Addr} {cn cu : Nat} {L : Lat} (hL : LatAt w An cn Au cu L) (h8 : L.up.length ≤ 8) :
    Calls Tryd.prog 58 #[.agg #[.slice An L.names.length cn, .slice Au L.up.length cu]] w fun e w' => e = .returned (.bool (orderB L)) ∧ Below w.heap.size w w' := by
  have hm := hL.lenu
  have HL := Lib.hid hL
  clear hL
  refine (callsIn_wide (n := 9)).1 ?_
  refine callsIn_of_wp_marks Tryd.func58 rfl trivial ?_ rfl
  simp only [Tryd.ntmps58, List.size_toArray, List.length_cons, List.length_nil, Nat.reduceAdd, Nat.reduceSub, Array.replicate_succ, Array.replicate_zero, List.push_toArray, List.append_toArray, List.nil_append, List.cons_append]
  gi_wp2_with (gi_at_call 59; refine (callsIn_wide.2 (pairs_any _ _)).mono ?_; rintro e w' ⟨rfl, rfl⟩)
  generalize hW1 : ((w.alloc (.cells #[.slice An L.names.length cn, .slice Au L.up.length cu] 25)).alloc (.cells #[.bool false] 4)).alloc (.cells #[.int .i64 (L.up.length : Int)] 3) = W1 at *
  have HW1 := Lib.hid hW1
  clear hW1
  have hsz : W1.heap.size = w.heap.size + 3 := by rw [← HW1.out]; simp
  have HSZ := Lib.hid hsz
  have HB0 := Lib.hid (show Below w.heap.size w W1 by rw [← HW1.out]; exact below_alloc (below_alloc (below_new _) _) _)
  have HC0 := Lib.hid (show W1.cell? ⟨w.heap.size, 0, none⟩ = some (.slice An L.names.length cn) by rw [← HW1.out]; simp [go_sem])
  have HC1 := Lib.hid (show W1.cell? ⟨w.heap.size, 1, none⟩ = some (.slice Au L.up.length cu) by rw [← HW1.out]; simp [go_sem])
  have HC2 := Lib.hid (show W1.cell? ⟨w.heap.size + 1, 0, none⟩ = some (.bool false) by rw [← HW1.out]; simp [go_sem])
  have HF2 := Lib.hid (show W1.frozen? ⟨w.heap.size + 1, 0, none⟩ = false by rw [← HW1.out]; simp [go_sem])
  have HC3 := Lib.hid (show W1.cell? ⟨w.heap.size + 1 + 1, 0, none⟩ = some (.int .i64 (L.up.length : Int)) by rw [← HW1.out]; simp [go_sem])
  have HLW := Lib.hid (HL.out.below HB0.out)
  clear hsz
  refine wpIn_rangeFunc_ownF rfl (by omega) (gf := 90) (lb := #[.pointer (some ⟨w.heap.size + 1 + 1, 0, none⟩)]) rfl trivial (enters_of Tryd.func90 (by kernel_rfl) rfl)
    (pairs1_stops _ (by omega) L.up.length (w.heap.size + 1 + 1) W1.heap.size (by omega) W1 (by rw [HSZ.out]; omega) (Nat.le_refl _) HC3.out) belowK_t (belowK_b (Nat.le_refl _)) (Below.refl _ _) (fun _ => rfl)
    (fun pre W => (∀ y ∈ pre, pairBad L y.1 y.2 = false) ∧ Below W1.heap.size W1 W)
    (fun c pre W => (c = .ret ∧ (∃ y ∈ pre, pairBad L y.1 y.2 = true) ∧ W.cell? ⟨w.heap.size + 1, 0, none⟩ = some (.bool false)) ∧ Below w.heap.size w W)
    (OwnFrom.and (ownFrom_pure _ _) (ownFrom_below (Nat.le_refl _) (Nat.le_refl _)))
    (fun c => OwnFrom.and (Own.from (fun s A B row hs hg hr => ⟨hs.1, hs.2.1, cell_kept hs.2.2 hg hr⟩) _) (ownFrom_below (Nat.le_refl _) (by rw [HSZ.out]; omega)))
    ⟨by simp, Below.refl _ _⟩
    (fun x => { tmps := #[.agg #[.slice An L.names.length cn, .slice Au L.up.length cu], .pointer (some ⟨w.heap.size, 0, none⟩), .pointer (some ⟨w.heap.size + 1, 0, none⟩), .int .i64 (x.1 : Int), .int .i64 (x.2 : Int), .pointer (some ⟨w.heap.size, 1, none⟩), .slice Au L.up.length cu, .int .i64 (L.up.length : Int), .func (.func 90) #[] #[.pointer (some ⟨w.heap.size + 1 + 1, 0, none⟩)], .int .i64 (x.1 : Int), .int .i64 (x.2 : Int), undef, undef, undef, undef, undef, undef, undef, undef, undef, undef, undef, undef, undef, undef, undef, undef, undef, undef, undef, undef, undef, undef, undef, undef, undef, undef, undef, undef, undef, undef, undef, undef, undef, undef, undef, undef, undef, undef, undef, undef, undef, undef, undef, undef, undef], defers := [] }) ?assign ?body ?done ?stop
  case assign =>
    intro l x W K hK
    gi_wp2
    exact hK
  case body =>
    rintro l pre ⟨⟨a, ha⟩, ⟨b, hb⟩⟩ W ⟨hp, hB⟩ _
    have HP := Lib.hid hp
    have HB := Lib.hid hB
    clear hp hB
    have hsz : w.heap.size + 2 < W.heap.size := by have := HB.out.size; rw [HSZ.out] at this; omega
    have HS := Lib.hid (show LB w (.slice An L.names.length cn) (.slice Au L.up.length cu) (.bool false) W from
      ⟨(HB.out.cell (p := ⟨w.heap.size, 0, none⟩) (by rw [HSZ.out]; simp)).trans HC0.out, (HB.out.cell (p := ⟨w.heap.size, 1, none⟩) (by rw [HSZ.out]; simp)).trans HC1.out, (HB.out.cell (p := ⟨w.heap.size + 1, 0, none⟩) (by rw [HSZ.out]; simp)).trans HC2.out, (HB.out.frozen (p := ⟨w.heap.size + 1, 0, none⟩) (by rw [HSZ.out]; simp)).trans HF2.out, Nat.lt_of_succ_lt hsz⟩)
    obtain ⟨hc0, hc1, hc2, hf2, _⟩ := HS.out
    have HW := Lib.hid (HLW.out.below HB.out)
    dsimp only
    have HBw := Lib.hid (HB0.out.trans (below_le HB.out (by rw [HSZ.out]; omega)))
    by_cases hab : a = b
    · subst hab
      have hq2 : ((a : Int) != (a : Int)) = false := by simp
      cases h1 : flowsB L a a with
      | false =>
        have H1 := Lib.hid h1
        have HG := Lib.hid (show pairBad L a a = true by simp [pairBad, h1])
        clear h1
        gi_wp2_with fail
        refine (CallsIn.inRound l (callsIn_wide.2 (flows_is HW.out ha hb H1.out))).mono ?_
        rintro e w1 ⟨rfl, hb1⟩
        have HB1 := Lib.hid (hb1)
        have HW1 := Lib.hid (HW.out.below HB1.out)
        obtain ⟨hc01, hc11, hc21, hf21, hsz1⟩ := HS.out.next HB1.out
        clear hb1
        gi_wp2
        all_goals try exact (undef_bool (by assumption)).elim
        exact ⟨(keepsOthers_of_below HB1.out).trans (KeepsOthers.setCell _ _ _), ⟨rfl, ⟨_, List.mem_append.2 (.inr (List.mem_singleton.2 rfl)), HG.out⟩, World.cell?_setCell_same' _ _ _ (by rw [hc21]; rfl)⟩, (below_step HBw.out HBw.out.size HB1.out).setCell (p := ⟨w.heap.size + 1, 0, none⟩) (by simp) _⟩
      | true =>
        have H1 := Lib.hid h1
        have HG := Lib.hid (show pairBad L a a = false by simp [pairBad, h1, subB_self])
        have hsub := u32_andNot (upAt L a) (upAt L a) (HL.out.upAt_lt a) (HL.out.upAt_lt a)
        rw [subB_self] at hsub
        clear h1
        gi_wp2_with fail
        refine (CallsIn.inRound l (callsIn_wide.2 (flows_is HW.out ha hb H1.out))).mono ?_
        rintro e w1 ⟨rfl, hb1⟩
        have HB1 := Lib.hid (hb1)
        have HW1 := Lib.hid (HW.out.below HB1.out)
        obtain ⟨hc01, hc11, hc21, hf21, hsz1⟩ := HS.out.next HB1.out
        clear hb1
        gi_wp2_with fail
        have hs01 : w.heap.size < w1.heap.size := by omega
        have hs11 : w.heap.size + 1 < w1.heap.size := by omega
        obtain ⟨ad, rfl, hca, hba⟩ := HW1.out.at_up (k := a) ha
        refine wpIn_round_later (by kernel_rfl) (by kernel_rfl) (by kernel_rfl) ?_
        repeat (first | go_big_quiet_skip | quiet_step ((go_at_call 89; exact aft_call (flows_is (HW1.out.below (Aft.below _)) ha hb H1.out))))
        refine wpQuiet_nil ?_
        rintro _ ⟨i, rfl⟩
        have HBi := Lib.hid (below_step HB1.out HB1.out.size i.below)
        obtain ⟨hc0i, hc1i, hc2i, hf2i, hszi⟩ := HS.out.next HBi.out
        generalize i.w = wi at *
        gi_wp2
        exact ⟨keepsOthers_of_below HBi.out, below_le HBi.out HB.out.size, fun y hy => (List.mem_append.1 hy).elim (HP.out y) (fun e => by rw [List.mem_singleton.1 e]; exact HG.out), HB.out.trans (below_le HBi.out HB.out.size)⟩
    · have hq1 : ((a : Int) == (b : Int)) = false := beq_eq_false_iff_ne.2 (by omega)
      have hq2 : ((a : Int) != (b : Int)) = true := bne_iff_ne.2 (by omega)
      have HAB := Lib.hid hab
      clear hab
      cases h1 : flowsB L a b with
      | true =>
        have H1 := Lib.hid h1
        clear h1
        cases h2 : flowsB L b a with
        | true =>
          have H2 := Lib.hid h2
          clear h2
          have HG := Lib.hid (show pairBad L a b = true by simp [pairBad, H1.out, H2.out, HAB.out])
          gi_wp2_with fail
          refine (CallsIn.inRound l (callsIn_wide.2 (flows_is HW.out ha hb H1.out))).mono ?_
          rintro e w1 ⟨rfl, hb1⟩
          have HB1 := Lib.hid (hb1)
          have HW1 := Lib.hid (HW.out.below HB1.out)
          obtain ⟨hc01, hc11, hc21, hf21, hsz1⟩ := HS.out.next HB1.out
          clear hb1
          gi_wp2_with fail
          refine (CallsIn.inRound l (callsIn_wide.2 (flows_is HW1.out hb ha H2.out))).mono ?_
          rintro e w2 ⟨rfl, hb2⟩
          have HB2 := Lib.hid (below_step HB1.out HB1.out.size hb2)
          have HW2 := Lib.hid (HW.out.below HB2.out)
          obtain ⟨hc02, hc12, hc22, hf22, hsz2⟩ := HS.out.next HB2.out
          clear hb2
          gi_wp2
          exact ⟨(keepsOthers_of_below HB2.out).trans (KeepsOthers.setCell _ _ _), ⟨rfl, ⟨_, List.mem_append.2 (.inr (List.mem_singleton.2 rfl)), HG.out⟩, World.cell?_setCell_same' _ _ _ (by rw [hc22]; rfl)⟩, (below_step HBw.out HBw.out.size HB2.out).setCell (p := ⟨w.heap.size + 1, 0, none⟩) (by simp) _⟩
        | false =>
          have H2 := Lib.hid h2
          clear h2
          have hsub := u32_andNot (upAt L b) (upAt L a) (HL.out.upAt_lt b) (HL.out.upAt_lt a)
          cases h3 : subB (upAt L b) (upAt L a) with
          | true =>
            have HG := Lib.hid (show pairBad L a b = false by simp [pairBad, H1.out, H2.out, HAB.out, h3])
            rw [h3] at hsub
            clear h3
            gi_wp2_with fail
            refine (CallsIn.inRound l (callsIn_wide.2 (flows_is HW.out ha hb H1.out))).mono ?_
            rintro e w1 ⟨rfl, hb1⟩
            have HB1 := Lib.hid (hb1)
            have HW1 := Lib.hid (HW.out.below HB1.out)
            obtain ⟨hc01, hc11, hc21, hf21, hsz1⟩ := HS.out.next HB1.out
            clear hb1
            gi_wp2_with fail
            refine (CallsIn.inRound l (callsIn_wide.2 (flows_is HW1.out hb ha H2.out))).mono ?_
            rintro e w2 ⟨rfl, hb2⟩
            have HB2 := Lib.hid (below_step HB1.out HB1.out.size hb2)
            have HW2 := Lib.hid (HW.out.below HB2.out)
            obtain ⟨hc02, hc12, hc22, hf22, hsz2⟩ := HS.out.next HB2.out
            clear hb2
            gi_wp2_with fail
            have hs02 : w.heap.size < w2.heap.size := by omega
            have hs12 : w.heap.size + 1 < w2.heap.size := by omega
            obtain ⟨ad, rfl, hca, hba⟩ := HW2.out.at_up (k := a) ha
            obtain ⟨ad', e', hcb, hbb⟩ := HW2.out.at_up (k := b) hb
            cases e'
            refine wpIn_round_later (by kernel_rfl) (by kernel_rfl) (by kernel_rfl) ?_
            repeat (first | go_big_quiet_skip | quiet_step ((go_at_call 89; exact aft_call (flows_is (HW2.out.below (Aft.below _)) ha hb H1.out))))
            refine wpQuiet_nil ?_
            rintro _ ⟨i, rfl⟩
            have HBi := Lib.hid (below_step HB2.out HB2.out.size i.below)
            obtain ⟨hc0i, hc1i, hc2i, hf2i, hszi⟩ := HS.out.next HBi.out
            generalize i.w = wi at *
            gi_wp2
            exact ⟨keepsOthers_of_below HBi.out, below_le HBi.out HB.out.size, fun y hy => (List.mem_append.1 hy).elim (HP.out y) (fun e => by rw [List.mem_singleton.1 e]; exact HG.out), HB.out.trans (below_le HBi.out HB.out.size)⟩
          | false =>
            have HG := Lib.hid (show pairBad L a b = true by simp [pairBad, H1.out, h3])
            rw [h3] at hsub
            clear h3
            gi_wp2_with fail
            refine (CallsIn.inRound l (callsIn_wide.2 (flows_is HW.out ha hb H1.out))).mono ?_
            rintro e w1 ⟨rfl, hb1⟩
            have HB1 := Lib.hid (hb1)
            have HW1 := Lib.hid (HW.out.below HB1.out)
            obtain ⟨hc01, hc11, hc21, hf21, hsz1⟩ := HS.out.next HB1.out
            clear hb1
            gi_wp2_with fail
            refine (CallsIn.inRound l (callsIn_wide.2 (flows_is HW1.out hb ha H2.out))).mono ?_
            rintro e w2 ⟨rfl, hb2⟩
            have HB2 := Lib.hid (below_step HB1.out HB1.out.size hb2)
            have HW2 := Lib.hid (HW.out.below HB2.out)
            obtain ⟨hc02, hc12, hc22, hf22, hsz2⟩ := HS.out.next HB2.out
            clear hb2
            gi_wp2_with fail
            have hs02 : w.heap.size < w2.heap.size := by omega
            have hs12 : w.heap.size + 1 < w2.heap.size := by omega
            obtain ⟨ad, rfl, hca, hba⟩ := HW2.out.at_up (k := a) ha
            obtain ⟨ad', e', hcb, hbb⟩ := HW2.out.at_up (k := b) hb
            cases e'
            refine wpIn_round_later (by kernel_rfl) (by kernel_rfl) (by kernel_rfl) ?_
            repeat (first | go_big_quiet_skip | quiet_step ((go_at_call 89; exact aft_call (flows_is (HW2.out.below (Aft.below _)) ha hb H1.out))))
            refine wpQuiet_nil ?_
            rintro _ ⟨i, rfl⟩
            have HBi := Lib.hid (below_step HB2.out HB2.out.size i.below)
            obtain ⟨hc0i, hc1i, hc2i, hf2i, hszi⟩ := HS.out.next HBi.out
            generalize i.w = wi at *
            gi_wp2
            exact ⟨(keepsOthers_of_below HBi.out).trans (KeepsOthers.setCell _ _ _), ⟨rfl, ⟨_, List.mem_append.2 (.inr (List.mem_singleton.2 rfl)), HG.out⟩, World.cell?_setCell_same' _ _ _ (by rw [hc2i]; rfl)⟩, (below_step HBw.out HBw.out.size HBi.out).setCell (p := ⟨w.heap.size + 1, 0, none⟩) (by simp) _⟩
      | false =>
        have H1 := Lib.hid h1
        have HG := Lib.hid (show pairBad L a b = false by simp [pairBad, h1, HAB.out])
        clear h1
        gi_wp2_with fail
        refine (CallsIn.inRound l (callsIn_wide.2 (flows_is HW.out ha hb H1.out))).mono ?_
        rintro e w1 ⟨rfl, hb1⟩
        have HB1 := Lib.hid (hb1)
        have HW1 := Lib.hid (HW.out.below HB1.out)
        obtain ⟨hc01, hc11, hc21, hf21, hsz1⟩ := HS.out.next HB1.out
        clear hb1
        gi_wp2_with fail
        have hs01 : w.heap.size < w1.heap.size := by omega
        have hs11 : w.heap.size + 1 < w1.heap.size := by omega
        obtain ⟨ad, rfl, hca, hba⟩ := HW1.out.at_up (k := a) ha
        obtain ⟨ad', e', hcb, hbb⟩ := HW1.out.at_up (k := b) hb
        cases e'
        refine wpIn_round_later (by kernel_rfl) (by kernel_rfl) (by kernel_rfl) ?_
        repeat (first | go_big_quiet_skip | quiet_step ((go_at_call 89; exact aft_call (flows_is (HW1.out.below (Aft.below _)) ha hb H1.out))))
        refine wpQuiet_nil ?_
        rintro _ ⟨i, rfl⟩
        have HBi := Lib.hid (below_step HB1.out HB1.out.size i.below)
        obtain ⟨hc0i, hc1i, hc2i, hf2i, hszi⟩ := HS.out.next HBi.out
        generalize i.w = wi at *
        gi_wp2
        exact ⟨keepsOthers_of_below HBi.out, below_le HBi.out HB.out.size, fun y hy => (List.mem_append.1 hy).elim (HP.out y) (fun e => by rw [List.mem_singleton.1 e]; exact HG.out), HB.out.trans (below_le HBi.out HB.out.size)⟩
  case done =>
    rintro D ys W hD hys ⟨hp, hB⟩ hK
    have hf : orderB L = true := by
      unfold orderB
      rw [← hys, List.all_map, List.all_eq_true]
      intro y hy
      simp [Pair.v, hp y hy]
    have HF := Lib.hid hf
    have HB := Lib.hid hB
    clear hf hp hys hB
    have hcr : W.cell? ⟨w.heap.size + 1, 0, none⟩ = some (.bool false) := (HB.out.cell (p := ⟨w.heap.size + 1, 0, none⟩) (by rw [HSZ.out]; simp)).trans HC2.out
    have hfr : W.frozen? ⟨w.heap.size + 1, 0, none⟩ = false := (HB.out.frozen (p := ⟨w.heap.size + 1, 0, none⟩) (by rw [HSZ.out]; simp)).trans HF2.out
    have hBw : Below w.heap.size w W := HB0.out.trans (below_le HB.out (by rw [HSZ.out]; omega))
    rw [HSZ.out] at hD
    gi_wp2
    have hK' := (KeepsOthers.setCell W ⟨w.heap.size + 1, 0, none⟩ (.bool true)).same D _ hK rfl
    refine ⟨by simp, .inl ⟨_, _, rfl, run_takeDeferred hK', ?_⟩⟩
    have hc5 := Go.cell_kept (World.cell?_setCell_same' W ⟨w.heap.size + 1, 0, none⟩ (.bool true) (by rw [hcr]; rfl)) (grownBy_putObj' _ D (.deferred none)) (fun r e => by cases e; exact ⟨_, hK', rfl⟩)
    refine ⟨.bool true, ?_, by rw [HF.out], (hBw.setCell (p := ⟨w.heap.size + 1, 0, none⟩) (by simp) _).trans (belowK_b (w := w) (Nat.le_refl _) _ D _ _ (by omega) hK' rfl rfl)⟩
    simp [results, Tryd.f58, go_sem, hc5]
  case stop =>
    rintro D c pre W hD _ ⟨⟨rfl, ⟨y, hy, hbad⟩, hcr⟩, hB⟩ hK
    have hf : orderB L = false := by
      unfold orderB
      rw [List.all_eq_false]
      exact ⟨(y.1.val, y.2.val), prs_all y.1.isLt y.2.isLt, by simp [hbad]⟩
    have HF := Lib.hid hf
    clear hf hbad
    rw [HSZ.out] at hD
    gi_wp2
    refine ⟨by simp, .inl ⟨_, _, rfl, run_takeDeferred hK, ?_⟩⟩
    have hc5 := Go.cell_kept hcr (grownBy_putObj' _ D (.deferred none)) (fun r e => by cases e; exact ⟨_, hK, rfl⟩)
    refine ⟨.bool false, ?_, by rw [HF.out], hB.trans (belowK_b (w := w) (Nat.le_refl _) W D _ _ (by omega) hK rfl rfl)⟩
    simp [results, Tryd.f58, go_sem, hc5]
end Go.Proofs.YtmcafcgbbhcjhaaDoor
