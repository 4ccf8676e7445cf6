/- lattice: Check. -/
import Derived.Test.YtmcafcgbbhcjhaaDoorLatE
namespace Go.Proofs.YtmcafcgbbhcjhaaDoor
open Go.RowKit Go.Shelf Go.Proofs.YtmcafcgbbhcjhaaDoorW.PrintWords
attribute [local go_sem] Oper.semAt_some

/-- Two labels without a join, or a meet. -/
def joinBad (L : Lat) (a b : Nat) : Bool := decide (joinI L a b < 0) || decide (meetI L a b < 0)
def joinsB (L : Lat) : Bool := (prs L.up.length L.up.length 0).all fun x => !joinBad L x.1 x.2
def checkE (L : Lat) : Int := if mayB L = true then (if orderB L = true then (if joinsB L = true then 0 else 3) else 2) else 1
theorem may_8 {L : Lat} (h : mayB L = true) : L.up.length ≤ 8 := by
  unfold mayB at h
  simp only [Bool.and_eq_true, decide_eq_true_eq] at h
  exact h.1.1.2

theorem may_1 {L : Lat} (h : mayB L = true) : 1 ≤ L.up.length := by
  unfold mayB at h
  simp only [Bool.and_eq_true, decide_eq_true_eq] at h
  exact h.1.1.1

theorem join_is {w : World} {An Au : Option Addr} {cn cu : Nat} {L : Lat} (hL : LatAt w An cn Au cu L) {a b : Nat} (ha : a < L.up.length) (hb : b < L.up.length) {v : Int} (hv : joinI L a b = v) :
    Calls Tryd.prog 60 #[.agg #[.slice An L.names.length cn, .slice Au L.up.length cu], .int .i64 (a : Int), .int .i64 (b : Int)] w fun e w' => e = .returned (.int .i64 v) ∧ Below w.heap.size w w' :=
  (join_any hL (a : Int) (b : Int) (by omega) (by omega) (by omega) (by omega)).mono fun e w' ⟨he, hb⟩ => ⟨by rw [he, ← hv]; rfl, hb⟩
theorem meet_is {w : World} {An Au : Option Addr} {cn cu : Nat} {L : Lat} (hL : LatAt w An cn Au cu L) (h8 : L.up.length ≤ 8) {a b : Nat} (_ha : a < L.up.length) (_hb : b < L.up.length) {v : Int} (hv : meetI L a b = v) :
    Calls Tryd.prog 61 #[.agg #[.slice An L.names.length cn, .slice Au L.up.length cu], .int .i64 (a : Int), .int .i64 (b : Int)] w fun e w' => e = .returned (.int .i64 v) ∧ Below w.heap.size w w' :=
  (meet_any hL h8 (a : Int) (b : Int) (by omega) (by omega)).mono fun e w' ⟨he, hb⟩ => ⟨by rw [he, ← hv]; rfl, hb⟩

set_option maxRecDepth 100000 in
set_option maxHeartbeats 1000000 in
theorem check_any {w : World} {An Au : Option Addr} {cn cu : Nat} {L : Lat} (hL : LatAt w An cn Au cu L) :
    Calls Tryd.prog 23 #[.agg #[.slice An L.names.length cn, .slice Au L.up.length cu]] w fun e w' => e = .returned (.int .i64 (checkE L)) ∧ Below w.heap.size w w' := by
  have hm := hL.lenu
  have HL := Lib.hid hL
  clear hL
  generalize hWb : ((w.alloc (.cells #[.slice An L.names.length cn, .slice Au L.up.length cu] 25)).alloc (.cells #[.int .i64 0] 28)) = WB
  have HWB := Lib.hid hWb
  have HB0 := Lib.hid (show Below w.heap.size w WB by rw [← hWb]; exact below_alloc (below_new _) _)
  have HS := Lib.hid (show LB w (.slice An L.names.length cn) (.slice Au L.up.length cu) (.int .i64 0) WB by
    rw [← hWb]; exact ⟨by simp [go_sem], by simp [go_sem], by simp [go_sem], by simp [go_sem], by simp⟩)
  have HLB := Lib.hid (HL.out.below HB0.out)
  clear hWb
  refine (callsIn_wide (n := 9)).1 ?_
  refine callsIn_of_wp_marks Tryd.func23 rfl trivial ?_ rfl
  simp only [Tryd.ntmps23, List.size_toArray, List.length_cons, List.length_nil, Nat.reduceAdd, Nat.reduceSub, Array.replicate_succ, Array.replicate_zero, List.push_toArray, List.append_toArray, List.nil_append, List.cons_append]
  gi_wp2_with fail
  rw [HWB.out]
  refine (callsIn_wide.2 (may_any HLB.out)).mono ?_
  rintro e w1 ⟨rfl, hb1⟩
  have HB1 := Lib.hid (below_step HB0.out HB0.out.size hb1)
  have HL1 := Lib.hid (HL.out.below HB1.out)
  have HS1 := Lib.hid (HS.out.next hb1)
  clear hb1
  obtain ⟨hc0, hc1, hc2, hf2, hsz⟩ := HS1.out
  cases h1 : mayB L with
  | false =>
    have HF := Lib.hid (show checkE L = 1 by simp [checkE, h1])
    clear h1
    gi_wp2
    have hc5 := World.cell?_setCell_same' w1 ⟨w.heap.size + 1, 0, none⟩ (.int .i64 1) (by rw [hc2]; rfl)
    refine ⟨.int .i64 1, ?_, by rw [HF.out], HB1.out.setCell (p := ⟨w.heap.size + 1, 0, none⟩) (by simp) _⟩
    simp [results, Tryd.f23, go_sem, hc5]
  | true =>
    have H8 := Lib.hid (may_8 h1)
    have H1 := Lib.hid h1
    clear h1
    gi_wp2_with fail
    refine (callsIn_wide.2 (order_any HL1.out H8.out)).mono ?_
    rintro e w2 ⟨rfl, hb2⟩
    have HB2 := Lib.hid (below_step HB1.out HB1.out.size hb2)
    have HL2 := Lib.hid (HL.out.below HB2.out)
    have HS2 := Lib.hid (HS1.out.next hb2)
    clear hb2 hc0 hc1 hc2 hf2 hsz
    obtain ⟨hc0, hc1, hc2, hf2, hsz⟩ := HS2.out
    cases h2 : orderB L with
    | false =>
      have HF := Lib.hid (show checkE L = 2 by simp [checkE, H1.out, h2])
      clear h2
      gi_wp2
      have hc5 := World.cell?_setCell_same' w2 ⟨w.heap.size + 1, 0, none⟩ (.int .i64 2) (by rw [hc2]; rfl)
      refine ⟨.int .i64 2, ?_, by rw [HF.out], HB2.out.setCell (p := ⟨w.heap.size + 1, 0, none⟩) (by simp) _⟩
      simp [results, Tryd.f23, go_sem, hc5]
    | true =>
      have H2 := Lib.hid h2
      clear h2
      gi_wp2_with (gi_at_call 59; refine (callsIn_wide.2 (pairs_any _ _)).mono ?_; rintro e w' ⟨rfl, rfl⟩)
      generalize hW0 : w2 = W0 at *
      generalize hW1 : W0.alloc (.cells #[.int .i64 (L.up.length : Int)] 3) = W1 at *
      have HW1 := Lib.hid hW1
      have hsz2 : W1.heap.size = W0.heap.size + 1 := by rw [← hW1]; simp
      have HSZ := Lib.hid hsz2
      have HSZ0 := Lib.hid hsz
      have HB01 := Lib.hid (show Below W0.heap.size W0 W1 by rw [← hW1]; exact below_new _)
      have HBW1 := Lib.hid (below_step HB2.out HB2.out.size HB01.out)
      have HC3 := Lib.hid (show W1.cell? ⟨W0.heap.size, 0, none⟩ = some (.int .i64 (L.up.length : Int)) by rw [← hW1]; simp [go_sem])
      have HLW := Lib.hid (HL.out.below HBW1.out)
      have HSW := Lib.hid (HS2.out.next HB01.out)
      clear hW1 hsz2 hc0 hc1 hc2 hf2 hsz hW0
      have h8 := H8.out
      refine wpIn_rangeFunc_ownF rfl (by omega) (gf := 90) (lb := #[.pointer (some ⟨W0.heap.size, 0, none⟩)]) rfl trivial (enters_of Tryd.func90 (by kernel_rfl) rfl)
        (pairs1_stops _ (by omega) L.up.length W0.heap.size W1.heap.size (by omega) W1 (by rw [HSZ.out]; omega) (Nat.le_refl _) HC3.out) belowK_t (belowK_b (Nat.le_refl _)) (Below.refl _ _) (fun _ => rfl)
        (fun pre W => (∀ y ∈ pre, joinBad L y.1 y.2 = false) ∧ Below W1.heap.size W1 W)
        (fun c pre W => (c = .ret ∧ (∃ y ∈ pre, joinBad L y.1 y.2 = true) ∧ W.cell? ⟨w.heap.size + 1, 0, none⟩ = some (.int .i64 3)) ∧ Below w.heap.size w W)
        (OwnFrom.and (ownFrom_pure _ _) (ownFrom_below (Nat.le_refl _) (Nat.le_refl _)))
        (fun c => OwnFrom.and (Own.from (fun s A B row hs hg hr => ⟨hs.1, hs.2.1, cell_kept hs.2.2 hg hr⟩) _) (ownFrom_below (Nat.le_refl _) HBW1.out.size))
        ⟨by simp, Below.refl _ _⟩
        (fun x => { tmps := #[.agg #[.slice An L.names.length cn, .slice Au L.up.length cu], .pointer (some ⟨w.heap.size, 0, none⟩), .pointer (some ⟨w.heap.size + 1, 0, none⟩), .int .i64 (x.1 : Int), .int .i64 (x.2 : Int), .bool false, .agg #[.slice An L.names.length cn, .slice Au L.up.length cu], .bool true, .bool false, .bool false, .agg #[.slice An L.names.length cn, .slice Au L.up.length cu], .bool true, .bool false, .pointer (some ⟨w.heap.size, 1, none⟩), .slice Au L.up.length cu, .int .i64 (L.up.length : Int), .func (.func 90) #[] #[.pointer (some ⟨W0.heap.size, 0, none⟩)], .int .i64 (x.1 : Int), .int .i64 (x.2 : Int), undef, undef, undef, undef, undef, undef, undef, undef, undef, undef, undef, undef], defers := [] }) ?assign ?body ?done ?stop
      case assign =>
        intro l x W K hK
        gi_wp2
        exact hK
      case body =>
        rintro l pre ⟨⟨a, ha⟩, ⟨b, hb⟩⟩ W ⟨hp, hB⟩ _
        have HP := Lib.hid hp
        have HB := Lib.hid hB
        clear hp hB
        have HSb := Lib.hid (HSW.out.next HB.out)
        have HW := Lib.hid (HLW.out.below HB.out)
        have HBw := Lib.hid (below_step HBW1.out HBW1.out.size HB.out)
        obtain ⟨hc0, hc1, hc2, hf2, hsz⟩ := HSb.out
        dsimp only
        by_cases h1 : joinI L a b < 0
        · have HG := Lib.hid (show joinBad L a b = true by simp [joinBad, h1])
          gi_wp2_with fail
          refine (CallsIn.inRound l (callsIn_wide.2 (join_is HW.out ha hb rfl))).mono ?_
          rintro e w3 ⟨rfl, hb1⟩
          have HB1 := Lib.hid hb1
          obtain ⟨hc01, hc11, hc21, hf21, hsz1⟩ := HSb.out.next hb1
          clear hb1 hc0 hc1 hc2 hf2 hsz
          gi_wp2
          all_goals try exact (undef_bool (by assumption)).elim
          exact ⟨(keepsOthers_of_below HB1.out).trans (KeepsOthers.setCell _ _ _), ⟨rfl, ⟨_, List.mem_append.2 (.inr (List.mem_singleton.2 rfl)), HG.out⟩, World.cell?_setCell_same' _ _ _ (by rw [hc21]; rfl)⟩, (below_step HBw.out HBw.out.size HB1.out).setCell (p := ⟨w.heap.size + 1, 0, none⟩) (by simp) _⟩
        · by_cases h2 : meetI L a b < 0
          · have HG := Lib.hid (show joinBad L a b = true by simp [joinBad, h2])
            gi_wp2_with fail
            refine (CallsIn.inRound l (callsIn_wide.2 (join_is HW.out ha hb rfl))).mono ?_
            rintro e w3 ⟨rfl, hb1⟩
            have HB1 := Lib.hid hb1
            have HL3 := Lib.hid (HW.out.below HB1.out)
            obtain ⟨hc01, hc11, hc21, hf21, hsz1⟩ := HSb.out.next hb1
            clear hb1 hc0 hc1 hc2 hf2 hsz
            gi_wp2_with fail
            refine (CallsIn.inRound l (callsIn_wide.2 (meet_is HL3.out H8.out ha hb rfl))).mono ?_
            rintro e w4 ⟨rfl, hb1⟩
            have HB2 := Lib.hid (below_step HB1.out HB1.out.size hb1)
            obtain ⟨hc02, hc12, hc22, hf22, hsz2⟩ := HSb.out.next HB2.out
            clear hb1 hc01 hc11 hc21 hf21 hsz1
            gi_wp2
            exact ⟨(keepsOthers_of_below HB2.out).trans (KeepsOthers.setCell _ _ _), ⟨rfl, ⟨_, List.mem_append.2 (.inr (List.mem_singleton.2 rfl)), HG.out⟩, World.cell?_setCell_same' _ _ _ (by rw [hc22]; rfl)⟩, (below_step HBw.out HBw.out.size HB2.out).setCell (p := ⟨w.heap.size + 1, 0, none⟩) (by simp) _⟩
          · have HG := Lib.hid (show joinBad L a b = false by simp [joinBad, h1, h2])
            gi_wp2_with fail
            refine (CallsIn.inRound l (callsIn_wide.2 (join_is HW.out ha hb rfl))).mono ?_
            rintro e w3 ⟨rfl, hb1⟩
            have HB1 := Lib.hid hb1
            have HL3 := Lib.hid (HW.out.below HB1.out)
            obtain ⟨hc01, hc11, hc21, hf21, hsz1⟩ := HSb.out.next hb1
            clear hb1 hc0 hc1 hc2 hf2 hsz
            gi_wp2_with fail
            refine (CallsIn.inRound l (callsIn_wide.2 (meet_is HL3.out H8.out ha hb rfl))).mono ?_
            rintro e w4 ⟨rfl, hb1⟩
            have HB2 := Lib.hid (below_step HB1.out HB1.out.size hb1)
            obtain ⟨hc02, hc12, hc22, hf22, hsz2⟩ := HSb.out.next HB2.out
            clear hb1 hc01 hc11 hc21 hf21 hsz1
            gi_wp2
            exact ⟨keepsOthers_of_below HB2.out, below_le HB2.out HB.out.size, fun y hy => (List.mem_append.1 hy).elim (HP.out y) (fun e => by rw [List.mem_singleton.1 e]; exact HG.out), HB.out.trans (below_le HB2.out HB.out.size)⟩
      case done =>
        rintro D ys W hD hys ⟨hp, hB⟩ hK
        have hf : joinsB L = true := by
          unfold joinsB
          rw [← hys, List.all_map, List.all_eq_true]
          intro y hy
          simp [Pair.v, hp y hy]
        have HF := Lib.hid (show checkE L = 0 by simp [checkE, H1.out, H2.out, hf])
        have HB := Lib.hid hB
        clear hf hp hys hB
        obtain ⟨hc0, hc1, hcr, hfr, hsz⟩ := HSW.out.next HB.out
        have hBw : Below w.heap.size w W := below_step HBW1.out HBW1.out.size HB.out
        gi_wp2
        have hK' := (KeepsOthers.setCell W ⟨w.heap.size + 1, 0, none⟩ (.int .i64 0)).same D _ hK rfl
        refine ⟨by simp, .inl ⟨_, _, rfl, run_takeDeferred hK', ?_⟩⟩
        have hc5 := Go.cell_kept (World.cell?_setCell_same' W ⟨w.heap.size + 1, 0, none⟩ (.int .i64 0) (by rw [hcr]; rfl)) (grownBy_putObj' _ D (.deferred none)) (fun r e => by cases e; exact ⟨_, hK', rfl⟩)
        refine ⟨.int .i64 0, ?_, by rw [HF.out], (hBw.setCell (p := ⟨w.heap.size + 1, 0, none⟩) (by simp) _).trans (belowK_b (w := w) (Nat.le_refl _) _ D _ _ (Nat.le_trans HBW1.out.size hD) hK' rfl rfl)⟩
        simp [results, Tryd.f23, go_sem, hc5]
      case stop =>
        rintro D c pre W hD _ ⟨⟨rfl, ⟨y, hy, hbad⟩, hcr⟩, hB⟩ hK
        have hf : joinsB L = false := by
          unfold joinsB
          rw [List.all_eq_false]
          exact ⟨(y.1.val, y.2.val), prs_all y.1.isLt y.2.isLt, by simp [hbad]⟩
        have HF := Lib.hid (show checkE L = 3 by simp [checkE, H1.out, H2.out, hf])
        clear hf hbad
        gi_wp2
        refine ⟨by simp, .inl ⟨_, _, rfl, run_takeDeferred hK, ?_⟩⟩
        have hc5 := Go.cell_kept hcr (grownBy_putObj' _ D (.deferred none)) (fun r e => by cases e; exact ⟨_, hK, rfl⟩)
        refine ⟨.int .i64 3, ?_, by rw [HF.out], hB.trans (belowK_b (w := w) (Nat.le_refl _) W D _ _ (Nat.le_trans HBW1.out.size hD) hK rfl rfl)⟩
        simp [results, Tryd.f23, go_sem, hc5]
end Go.Proofs.YtmcafcgbbhcjhaaDoor
