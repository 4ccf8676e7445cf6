/- reticentref01: Join. -/
import Derived.Test.YtmcafcgbbhcjhaaDoorRefF
namespace Go.Proofs.YtmcafcgbbhcjhaaDoor
open Go.RowKit Go.Shelf Go.Proofs.YtmcafcgbbhcjhaaDoorW.PrintWords
attribute [local go_sem] Oper.semAt_some

theorem rFlows_is {w : World} {An Au : Option Addr} {cn cu : Nat} {L : Lat} (hL : LatAt w An cn Au cu L) {a b : Nat} (ha : a < L.up.length) (hb : b < L.up.length) {v : Bool} (hv : flowsB L a b = v) :
    Calls Tryd.prog 66 #[.agg #[.slice An L.names.length cn, .slice Au L.up.length cu], .int .i64 a, .int .i64 b] w fun e w' => e = .returned (.bool v) ∧ Below w.heap.size w w' :=
  (rFlows_any hL ha (by have := hL.lenu; omega)).mono fun e w' ⟨he, hb⟩ => ⟨by rw [he, hv], hb⟩
theorem nth_range {n k : Nat} (h : k < n) : nth 0 (List.range n) k = k := by
  rw [nth_get 0 (by rw [List.length_range]; exact h), List.getElem_range]
def lubBOk (L : Lat) (a b c d : Nat) : Bool := !(flowsB L a d && flowsB L b d && !flowsB L c d)
def lubB (L : Lat) (a b c : Nat) : Bool := (flowsB L a c && flowsB L b c) && (List.range L.up.length).all (lubBOk L a b c)
def rJoinI (L : Lat) (a b : Nat) : Int := idxOf (lubB L a b) (List.range L.up.length)
set_option maxRecDepth 100000 in
set_option maxHeartbeats 8000000 in
theorem rJoin_any {w : World} {An Au : Option Addr} {cn cu : Nat} {L : Lat} (hL : LatAt w An cn Au cu L) {a b : Nat} (ha : a < L.up.length) (hb : b < L.up.length) :
    Calls Tryd.prog 29 #[.agg #[.slice An L.names.length cn, .slice Au L.up.length cu], .int .i64 a, .int .i64 b] w fun e w' => e = .returned (.int .i64 (rJoinI L a b)) ∧ Below w.heap.size w w' := by
  have hm := hL.lenu
  have HL := Lib.hid hL
  clear hL
  generalize hWb : w.alloc (.cells #[.slice An L.names.length cn, .slice Au L.up.length cu] 25) = WB
  have HWB := Lib.hid hWb
  have HB0 := Lib.hid (show Below w.heap.size w WB by rw [← hWb]; exact below_new _)
  have hs0 : WB.heap.size = w.heap.size + 1 := by rw [← hWb]; simp
  have HS0 := Lib.hid hs0
  have HC0 := Lib.hid (show WB.cell? ⟨w.heap.size, 0, none⟩ = some (.slice An L.names.length cn) by rw [← hWb]; simp [go_sem])
  have HC1 := Lib.hid (show WB.cell? ⟨w.heap.size, 1, none⟩ = some (.slice Au L.up.length cu) by rw [← hWb]; simp [go_sem])
  have HLB := Lib.hid (HL.out.below HB0.out)
  have HK : Hid (∀ W : World, Below WB.heap.size WB W → W.cell? ⟨w.heap.size, 0, none⟩ = some (.slice An L.names.length cn) ∧ W.cell? ⟨w.heap.size, 1, none⟩ = some (.slice Au L.up.length cu) ∧ w.heap.size < W.heap.size) := Lib.hid (fun W hb =>
    ⟨(hb.cell (p := ⟨w.heap.size, 0, none⟩) (by rw [HS0.out]; simp)).trans HC0.out, (hb.cell (p := ⟨w.heap.size, 1, none⟩) (by rw [HS0.out]; simp)).trans HC1.out, Nat.lt_of_lt_of_le (by rw [HS0.out]; omega) hb.size⟩)
  clear hWb hs0
  go_enter Tryd.func29, Tryd.ntmps29
  go_wp2
  rw [HWB.out]
  go_loopw [13] (fun i wr => ∃ c : Nat, c ≤ L.up.length ∧ i = .int .i64 c ∧ (List.range c).all (fun x => !lubB L a b x) = true ∧ Below WB.heap.size WB wr) (fun i _ => L.up.length - (intOf i).toNat)
  case atStart => exact ⟨0, Nat.zero_le _, rfl, rfl, Below.refl _ _⟩
  case round =>
    obtain ⟨c, hc, rfl, hall, hB⟩ := hrel
    have HA := Lib.hid hall
    have HB := Lib.hid hB
    obtain ⟨hc0, hc1, hsz⟩ := HK.out _ hB
    clear hall hB
    by_cases hlt : c < L.up.length
    · cases h1 : flowsB L a c with
      | false =>
        have H1 := Lib.hid h1
        have HS := Lib.hid (show (flowsB L a c && flowsB L b c) = false by rw [h1]; rfl)
        clear h1
        go_wp2_with fail
        refine (rFlows_is (HLB.out.below HB.out) ha hlt H1.out).mono ?_
        rintro e w1 ⟨rfl, hb1⟩
        have HB1 := Lib.hid (below_step HB.out HB.out.size hb1)
        clear hb1 hc0 hc1 hsz
        obtain ⟨hc0, hc1, hsz⟩ := HK.out _ HB1.out
        go_wp2_with fail
        go_loopw [8, 29] (fun v i wr => ∃ d : Nat, d ≤ L.up.length ∧ i = .int .i64 d ∧ v = .bool (false && (List.range d).all (lubBOk L a b c)) ∧ Below WB.heap.size WB wr) (fun _ i _ => L.up.length - (intOf i).toNat)
        case atStart => exact ⟨0, Nat.zero_le _, rfl, by simp, HB1.out⟩
        case round =>
          obtain ⟨d, hd, rfl, hv, hB⟩ := hrel
          obtain ⟨r, hr⟩ : ∃ r, r = (false && (List.range d).all (lubBOk L a b c)) := ⟨_, rfl⟩
          rw [← hr] at hv
          subst hv
          have HR := Lib.hid hr
          have HBd := Lib.hid hB
          clear hr hB hc0 hc1 hsz
          obtain ⟨hc0, hc1, hsz⟩ := HK.out _ HBd.out
          by_cases hdl : d < L.up.length
          · cases g1 : flowsB L a d with
            | false =>
              have HO := Lib.hid (show lubBOk L a b c d = true by simp [lubBOk, g1])
              have G1 := Lib.hid g1
              clear g1
              go_wp2_with fail
              refine (rFlows_is (HLB.out.below HBd.out) ha hdl G1.out).mono ?_
              rintro e we1 ⟨rfl, hbe1⟩
              have HBe1 := Lib.hid (below_step HBd.out HBd.out.size hbe1)
              clear hbe1 hc0 hc1 hsz
              obtain ⟨hc0, hc1, hsz⟩ := HK.out _ HBe1.out
              go_wp2
              go_roundw
              case rel => exact ⟨d + 1, by omega, by go_num, by rw [List.range_succ, List.all_append, ← Bool.and_assoc, ← HR.out]; simp [HO.out], HBe1.out⟩
              case measure => simp [intOf]; omega
            | true =>
              have G1 := Lib.hid g1
              cases g2 : flowsB L b d with
              | false =>
                have HO := Lib.hid (show lubBOk L a b c d = true by simp [lubBOk, g2])
                have G2 := Lib.hid g2
                clear g1 g2
                go_wp2_with fail
                refine (rFlows_is (HLB.out.below HBd.out) ha hdl G1.out).mono ?_
                rintro e we1 ⟨rfl, hbe1⟩
                have HBe1 := Lib.hid (below_step HBd.out HBd.out.size hbe1)
                clear hbe1 hc0 hc1 hsz
                obtain ⟨hc0, hc1, hsz⟩ := HK.out _ HBe1.out
                go_wp2_with fail
                refine (rFlows_is (HLB.out.below HBe1.out) hb hdl G2.out).mono ?_
                rintro e we2 ⟨rfl, hbe2⟩
                have HBe2 := Lib.hid (below_step HBe1.out HBe1.out.size hbe2)
                clear hbe2 hc0 hc1 hsz
                obtain ⟨hc0, hc1, hsz⟩ := HK.out _ HBe2.out
                go_wp2
                go_roundw
                case rel => exact ⟨d + 1, by omega, by go_num, by rw [List.range_succ, List.all_append, ← Bool.and_assoc, ← HR.out]; simp [HO.out], HBe2.out⟩
                case measure => simp [intOf]; omega
              | true =>
                have G2 := Lib.hid g2
                cases g3 : flowsB L c d with
                | true =>
                  have HO := Lib.hid (show lubBOk L a b c d = true by simp [lubBOk, g3])
                  have G3 := Lib.hid g3
                  clear g1 g2 g3
                  go_wp2_with fail
                  refine (rFlows_is (HLB.out.below HBd.out) ha hdl G1.out).mono ?_
                  rintro e we1 ⟨rfl, hbe1⟩
                  have HBe1 := Lib.hid (below_step HBd.out HBd.out.size hbe1)
                  clear hbe1 hc0 hc1 hsz
                  obtain ⟨hc0, hc1, hsz⟩ := HK.out _ HBe1.out
                  go_wp2_with fail
                  refine (rFlows_is (HLB.out.below HBe1.out) hb hdl G2.out).mono ?_
                  rintro e we2 ⟨rfl, hbe2⟩
                  have HBe2 := Lib.hid (below_step HBe1.out HBe1.out.size hbe2)
                  clear hbe2 hc0 hc1 hsz
                  obtain ⟨hc0, hc1, hsz⟩ := HK.out _ HBe2.out
                  go_wp2_with fail
                  refine (rFlows_is (HLB.out.below HBe2.out) hlt hdl G3.out).mono ?_
                  rintro e we3 ⟨rfl, hbe3⟩
                  have HBe3 := Lib.hid (below_step HBe2.out HBe2.out.size hbe3)
                  clear hbe3 hc0 hc1 hsz
                  obtain ⟨hc0, hc1, hsz⟩ := HK.out _ HBe3.out
                  go_wp2
                  go_roundw
                  case rel => exact ⟨d + 1, by omega, by go_num, by rw [List.range_succ, List.all_append, ← Bool.and_assoc, ← HR.out]; simp [HO.out], HBe3.out⟩
                  case measure => simp [intOf]; omega
                | false =>
                  have HO := Lib.hid (show lubBOk L a b c d = false by simp [lubBOk, g1, g2, g3])
                  have G3 := Lib.hid g3
                  clear g1 g2 g3
                  go_wp2_with fail
                  refine (rFlows_is (HLB.out.below HBd.out) ha hdl G1.out).mono ?_
                  rintro e we1 ⟨rfl, hbe1⟩
                  have HBe1 := Lib.hid (below_step HBd.out HBd.out.size hbe1)
                  clear hbe1 hc0 hc1 hsz
                  obtain ⟨hc0, hc1, hsz⟩ := HK.out _ HBe1.out
                  go_wp2_with fail
                  refine (rFlows_is (HLB.out.below HBe1.out) hb hdl G2.out).mono ?_
                  rintro e we2 ⟨rfl, hbe2⟩
                  have HBe2 := Lib.hid (below_step HBe1.out HBe1.out.size hbe2)
                  clear hbe2 hc0 hc1 hsz
                  obtain ⟨hc0, hc1, hsz⟩ := HK.out _ HBe2.out
                  go_wp2_with fail
                  refine (rFlows_is (HLB.out.below HBe2.out) hlt hdl G3.out).mono ?_
                  rintro e we3 ⟨rfl, hbe3⟩
                  have HBe3 := Lib.hid (below_step HBe2.out HBe2.out.size hbe3)
                  clear hbe3 hc0 hc1 hsz
                  obtain ⟨hc0, hc1, hsz⟩ := HK.out _ HBe3.out
                  go_wp2
                  go_roundw
                  case rel => exact ⟨d + 1, by omega, by go_num, by rw [List.range_succ, List.all_append, ← Bool.and_assoc, ← HR.out]; simp [HO.out], HBe3.out⟩
                  case measure => simp [intOf]; omega
          · have hde : d = L.up.length := by omega
            subst hde
            cases r with
            | true =>
              have HLu := Lib.hid (show lubB L a b c = true by rw [lubB, HS.out]; exact HR.out.symm)
              go_wp2
              go_ret
              exact ⟨ret_int (by rw [rJoinI]; exact (idxOf_at _ _ c 0 (by rw [List.length_range]; exact hlt) (by rw [List.take_range, Nat.min_eq_left hc]; exact HA.out) (by rw [nth_range hlt]; exact HLu.out)).symm), below_le (HB0.out.trans (below_le HBd.out (by rw [HS0.out]; omega))) (Nat.le_refl _)⟩
            | false =>
              have HLu := Lib.hid (show lubB L a b c = false by rw [lubB, HS.out]; exact HR.out.symm)
              go_wp2
              go_roundw
              case rel => exact ⟨c + 1, by omega, by go_num, all_range_snoc _ c HA.out (by rw [HLu.out]; rfl), HBd.out⟩
              case measure => simp [intOf]; omega
      | true =>
        have H1 := Lib.hid h1
        cases h2 : flowsB L b c with
        | false =>
          have H2 := Lib.hid h2
          have HS := Lib.hid (show (flowsB L a c && flowsB L b c) = false by rw [h1, h2]; rfl)
          clear h1 h2
          go_wp2_with fail
          refine (rFlows_is (HLB.out.below HB.out) ha hlt H1.out).mono ?_
          rintro e w1 ⟨rfl, hb1⟩
          have HB1 := Lib.hid (below_step HB.out HB.out.size hb1)
          clear hb1 hc0 hc1 hsz
          obtain ⟨hc0, hc1, hsz⟩ := HK.out _ HB1.out
          go_wp2_with fail
          refine (rFlows_is (HLB.out.below HB1.out) hb hlt H2.out).mono ?_
          rintro e w2 ⟨rfl, hb2⟩
          have HB2 := Lib.hid (below_step HB1.out HB1.out.size hb2)
          clear hb2 hc0 hc1 hsz
          obtain ⟨hc0, hc1, hsz⟩ := HK.out _ HB2.out
          go_wp2_with fail
          go_loopw [8, 29] (fun v i wr => ∃ d : Nat, d ≤ L.up.length ∧ i = .int .i64 d ∧ v = .bool (false && (List.range d).all (lubBOk L a b c)) ∧ Below WB.heap.size WB wr) (fun _ i _ => L.up.length - (intOf i).toNat)
          case atStart => exact ⟨0, Nat.zero_le _, rfl, by simp, HB2.out⟩
          case round =>
            obtain ⟨d, hd, rfl, hv, hB⟩ := hrel
            obtain ⟨r, hr⟩ : ∃ r, r = (false && (List.range d).all (lubBOk L a b c)) := ⟨_, rfl⟩
            rw [← hr] at hv
            subst hv
            have HR := Lib.hid hr
            have HBd := Lib.hid hB
            clear hr hB hc0 hc1 hsz
            obtain ⟨hc0, hc1, hsz⟩ := HK.out _ HBd.out
            by_cases hdl : d < L.up.length
            · cases g1 : flowsB L a d with
              | false =>
                have HO := Lib.hid (show lubBOk L a b c d = true by simp [lubBOk, g1])
                have G1 := Lib.hid g1
                clear g1
                go_wp2_with fail
                refine (rFlows_is (HLB.out.below HBd.out) ha hdl G1.out).mono ?_
                rintro e we1 ⟨rfl, hbe1⟩
                have HBe1 := Lib.hid (below_step HBd.out HBd.out.size hbe1)
                clear hbe1 hc0 hc1 hsz
                obtain ⟨hc0, hc1, hsz⟩ := HK.out _ HBe1.out
                go_wp2
                go_roundw
                case rel => exact ⟨d + 1, by omega, by go_num, by rw [List.range_succ, List.all_append, ← Bool.and_assoc, ← HR.out]; simp [HO.out], HBe1.out⟩
                case measure => simp [intOf]; omega
              | true =>
                have G1 := Lib.hid g1
                cases g2 : flowsB L b d with
                | false =>
                  have HO := Lib.hid (show lubBOk L a b c d = true by simp [lubBOk, g2])
                  have G2 := Lib.hid g2
                  clear g1 g2
                  go_wp2_with fail
                  refine (rFlows_is (HLB.out.below HBd.out) ha hdl G1.out).mono ?_
                  rintro e we1 ⟨rfl, hbe1⟩
                  have HBe1 := Lib.hid (below_step HBd.out HBd.out.size hbe1)
                  clear hbe1 hc0 hc1 hsz
                  obtain ⟨hc0, hc1, hsz⟩ := HK.out _ HBe1.out
                  go_wp2_with fail
                  refine (rFlows_is (HLB.out.below HBe1.out) hb hdl G2.out).mono ?_
                  rintro e we2 ⟨rfl, hbe2⟩
                  have HBe2 := Lib.hid (below_step HBe1.out HBe1.out.size hbe2)
                  clear hbe2 hc0 hc1 hsz
                  obtain ⟨hc0, hc1, hsz⟩ := HK.out _ HBe2.out
                  go_wp2
                  go_roundw
                  case rel => exact ⟨d + 1, by omega, by go_num, by rw [List.range_succ, List.all_append, ← Bool.and_assoc, ← HR.out]; simp [HO.out], HBe2.out⟩
                  case measure => simp [intOf]; omega
                | true =>
                  have G2 := Lib.hid g2
                  cases g3 : flowsB L c d with
                  | true =>
                    have HO := Lib.hid (show lubBOk L a b c d = true by simp [lubBOk, g3])
                    have G3 := Lib.hid g3
                    clear g1 g2 g3
                    go_wp2_with fail
                    refine (rFlows_is (HLB.out.below HBd.out) ha hdl G1.out).mono ?_
                    rintro e we1 ⟨rfl, hbe1⟩
                    have HBe1 := Lib.hid (below_step HBd.out HBd.out.size hbe1)
                    clear hbe1 hc0 hc1 hsz
                    obtain ⟨hc0, hc1, hsz⟩ := HK.out _ HBe1.out
                    go_wp2_with fail
                    refine (rFlows_is (HLB.out.below HBe1.out) hb hdl G2.out).mono ?_
                    rintro e we2 ⟨rfl, hbe2⟩
                    have HBe2 := Lib.hid (below_step HBe1.out HBe1.out.size hbe2)
                    clear hbe2 hc0 hc1 hsz
                    obtain ⟨hc0, hc1, hsz⟩ := HK.out _ HBe2.out
                    go_wp2_with fail
                    refine (rFlows_is (HLB.out.below HBe2.out) hlt hdl G3.out).mono ?_
                    rintro e we3 ⟨rfl, hbe3⟩
                    have HBe3 := Lib.hid (below_step HBe2.out HBe2.out.size hbe3)
                    clear hbe3 hc0 hc1 hsz
                    obtain ⟨hc0, hc1, hsz⟩ := HK.out _ HBe3.out
                    go_wp2
                    go_roundw
                    case rel => exact ⟨d + 1, by omega, by go_num, by rw [List.range_succ, List.all_append, ← Bool.and_assoc, ← HR.out]; simp [HO.out], HBe3.out⟩
                    case measure => simp [intOf]; omega
                  | false =>
                    have HO := Lib.hid (show lubBOk L a b c d = false by simp [lubBOk, g1, g2, g3])
                    have G3 := Lib.hid g3
                    clear g1 g2 g3
                    go_wp2_with fail
                    refine (rFlows_is (HLB.out.below HBd.out) ha hdl G1.out).mono ?_
                    rintro e we1 ⟨rfl, hbe1⟩
                    have HBe1 := Lib.hid (below_step HBd.out HBd.out.size hbe1)
                    clear hbe1 hc0 hc1 hsz
                    obtain ⟨hc0, hc1, hsz⟩ := HK.out _ HBe1.out
                    go_wp2_with fail
                    refine (rFlows_is (HLB.out.below HBe1.out) hb hdl G2.out).mono ?_
                    rintro e we2 ⟨rfl, hbe2⟩
                    have HBe2 := Lib.hid (below_step HBe1.out HBe1.out.size hbe2)
                    clear hbe2 hc0 hc1 hsz
                    obtain ⟨hc0, hc1, hsz⟩ := HK.out _ HBe2.out
                    go_wp2_with fail
                    refine (rFlows_is (HLB.out.below HBe2.out) hlt hdl G3.out).mono ?_
                    rintro e we3 ⟨rfl, hbe3⟩
                    have HBe3 := Lib.hid (below_step HBe2.out HBe2.out.size hbe3)
                    clear hbe3 hc0 hc1 hsz
                    obtain ⟨hc0, hc1, hsz⟩ := HK.out _ HBe3.out
                    go_wp2
                    go_roundw
                    case rel => exact ⟨d + 1, by omega, by go_num, by rw [List.range_succ, List.all_append, ← Bool.and_assoc, ← HR.out]; simp [HO.out], HBe3.out⟩
                    case measure => simp [intOf]; omega
            · have hde : d = L.up.length := by omega
              subst hde
              cases r with
              | true =>
                have HLu := Lib.hid (show lubB L a b c = true by rw [lubB, HS.out]; exact HR.out.symm)
                go_wp2
                go_ret
                exact ⟨ret_int (by rw [rJoinI]; exact (idxOf_at _ _ c 0 (by rw [List.length_range]; exact hlt) (by rw [List.take_range, Nat.min_eq_left hc]; exact HA.out) (by rw [nth_range hlt]; exact HLu.out)).symm), below_le (HB0.out.trans (below_le HBd.out (by rw [HS0.out]; omega))) (Nat.le_refl _)⟩
              | false =>
                have HLu := Lib.hid (show lubB L a b c = false by rw [lubB, HS.out]; exact HR.out.symm)
                go_wp2
                go_roundw
                case rel => exact ⟨c + 1, by omega, by go_num, all_range_snoc _ c HA.out (by rw [HLu.out]; rfl), HBd.out⟩
                case measure => simp [intOf]; omega
        | true =>
          have H2 := Lib.hid h2
          have HS := Lib.hid (show (flowsB L a c && flowsB L b c) = true by rw [h1, h2]; rfl)
          clear h1 h2
          go_wp2_with fail
          refine (rFlows_is (HLB.out.below HB.out) ha hlt H1.out).mono ?_
          rintro e w1 ⟨rfl, hb1⟩
          have HB1 := Lib.hid (below_step HB.out HB.out.size hb1)
          clear hb1 hc0 hc1 hsz
          obtain ⟨hc0, hc1, hsz⟩ := HK.out _ HB1.out
          go_wp2_with fail
          refine (rFlows_is (HLB.out.below HB1.out) hb hlt H2.out).mono ?_
          rintro e w2 ⟨rfl, hb2⟩
          have HB2 := Lib.hid (below_step HB1.out HB1.out.size hb2)
          clear hb2 hc0 hc1 hsz
          obtain ⟨hc0, hc1, hsz⟩ := HK.out _ HB2.out
          go_wp2_with fail
          go_loopw [8, 29] (fun v i wr => ∃ d : Nat, d ≤ L.up.length ∧ i = .int .i64 d ∧ v = .bool (true && (List.range d).all (lubBOk L a b c)) ∧ Below WB.heap.size WB wr) (fun _ i _ => L.up.length - (intOf i).toNat)
          case atStart => exact ⟨0, Nat.zero_le _, rfl, by simp, HB2.out⟩
          case round =>
            obtain ⟨d, hd, rfl, hv, hB⟩ := hrel
            obtain ⟨r, hr⟩ : ∃ r, r = (true && (List.range d).all (lubBOk L a b c)) := ⟨_, rfl⟩
            rw [← hr] at hv
            subst hv
            have HR := Lib.hid hr
            have HBd := Lib.hid hB
            clear hr hB hc0 hc1 hsz
            obtain ⟨hc0, hc1, hsz⟩ := HK.out _ HBd.out
            by_cases hdl : d < L.up.length
            · cases g1 : flowsB L a d with
              | false =>
                have HO := Lib.hid (show lubBOk L a b c d = true by simp [lubBOk, g1])
                have G1 := Lib.hid g1
                clear g1
                go_wp2_with fail
                refine (rFlows_is (HLB.out.below HBd.out) ha hdl G1.out).mono ?_
                rintro e we1 ⟨rfl, hbe1⟩
                have HBe1 := Lib.hid (below_step HBd.out HBd.out.size hbe1)
                clear hbe1 hc0 hc1 hsz
                obtain ⟨hc0, hc1, hsz⟩ := HK.out _ HBe1.out
                go_wp2
                go_roundw
                case rel => exact ⟨d + 1, by omega, by go_num, by rw [List.range_succ, List.all_append, ← Bool.and_assoc, ← HR.out]; simp [HO.out], HBe1.out⟩
                case measure => simp [intOf]; omega
              | true =>
                have G1 := Lib.hid g1
                cases g2 : flowsB L b d with
                | false =>
                  have HO := Lib.hid (show lubBOk L a b c d = true by simp [lubBOk, g2])
                  have G2 := Lib.hid g2
                  clear g1 g2
                  go_wp2_with fail
                  refine (rFlows_is (HLB.out.below HBd.out) ha hdl G1.out).mono ?_
                  rintro e we1 ⟨rfl, hbe1⟩
                  have HBe1 := Lib.hid (below_step HBd.out HBd.out.size hbe1)
                  clear hbe1 hc0 hc1 hsz
                  obtain ⟨hc0, hc1, hsz⟩ := HK.out _ HBe1.out
                  go_wp2_with fail
                  refine (rFlows_is (HLB.out.below HBe1.out) hb hdl G2.out).mono ?_
                  rintro e we2 ⟨rfl, hbe2⟩
                  have HBe2 := Lib.hid (below_step HBe1.out HBe1.out.size hbe2)
                  clear hbe2 hc0 hc1 hsz
                  obtain ⟨hc0, hc1, hsz⟩ := HK.out _ HBe2.out
                  go_wp2
                  go_roundw
                  case rel => exact ⟨d + 1, by omega, by go_num, by rw [List.range_succ, List.all_append, ← Bool.and_assoc, ← HR.out]; simp [HO.out], HBe2.out⟩
                  case measure => simp [intOf]; omega
                | true =>
                  have G2 := Lib.hid g2
                  cases g3 : flowsB L c d with
                  | true =>
                    have HO := Lib.hid (show lubBOk L a b c d = true by simp [lubBOk, g3])
                    have G3 := Lib.hid g3
                    clear g1 g2 g3
                    go_wp2_with fail
                    refine (rFlows_is (HLB.out.below HBd.out) ha hdl G1.out).mono ?_
                    rintro e we1 ⟨rfl, hbe1⟩
                    have HBe1 := Lib.hid (below_step HBd.out HBd.out.size hbe1)
                    clear hbe1 hc0 hc1 hsz
                    obtain ⟨hc0, hc1, hsz⟩ := HK.out _ HBe1.out
                    go_wp2_with fail
                    refine (rFlows_is (HLB.out.below HBe1.out) hb hdl G2.out).mono ?_
                    rintro e we2 ⟨rfl, hbe2⟩
                    have HBe2 := Lib.hid (below_step HBe1.out HBe1.out.size hbe2)
                    clear hbe2 hc0 hc1 hsz
                    obtain ⟨hc0, hc1, hsz⟩ := HK.out _ HBe2.out
                    go_wp2_with fail
                    refine (rFlows_is (HLB.out.below HBe2.out) hlt hdl G3.out).mono ?_
                    rintro e we3 ⟨rfl, hbe3⟩
                    have HBe3 := Lib.hid (below_step HBe2.out HBe2.out.size hbe3)
                    clear hbe3 hc0 hc1 hsz
                    obtain ⟨hc0, hc1, hsz⟩ := HK.out _ HBe3.out
                    go_wp2
                    go_roundw
                    case rel => exact ⟨d + 1, by omega, by go_num, by rw [List.range_succ, List.all_append, ← Bool.and_assoc, ← HR.out]; simp [HO.out], HBe3.out⟩
                    case measure => simp [intOf]; omega
                  | false =>
                    have HO := Lib.hid (show lubBOk L a b c d = false by simp [lubBOk, g1, g2, g3])
                    have G3 := Lib.hid g3
                    clear g1 g2 g3
                    go_wp2_with fail
                    refine (rFlows_is (HLB.out.below HBd.out) ha hdl G1.out).mono ?_
                    rintro e we1 ⟨rfl, hbe1⟩
                    have HBe1 := Lib.hid (below_step HBd.out HBd.out.size hbe1)
                    clear hbe1 hc0 hc1 hsz
                    obtain ⟨hc0, hc1, hsz⟩ := HK.out _ HBe1.out
                    go_wp2_with fail
                    refine (rFlows_is (HLB.out.below HBe1.out) hb hdl G2.out).mono ?_
                    rintro e we2 ⟨rfl, hbe2⟩
                    have HBe2 := Lib.hid (below_step HBe1.out HBe1.out.size hbe2)
                    clear hbe2 hc0 hc1 hsz
                    obtain ⟨hc0, hc1, hsz⟩ := HK.out _ HBe2.out
                    go_wp2_with fail
                    refine (rFlows_is (HLB.out.below HBe2.out) hlt hdl G3.out).mono ?_
                    rintro e we3 ⟨rfl, hbe3⟩
                    have HBe3 := Lib.hid (below_step HBe2.out HBe2.out.size hbe3)
                    clear hbe3 hc0 hc1 hsz
                    obtain ⟨hc0, hc1, hsz⟩ := HK.out _ HBe3.out
                    go_wp2
                    go_roundw
                    case rel => exact ⟨d + 1, by omega, by go_num, by rw [List.range_succ, List.all_append, ← Bool.and_assoc, ← HR.out]; simp [HO.out], HBe3.out⟩
                    case measure => simp [intOf]; omega
            · have hde : d = L.up.length := by omega
              subst hde
              cases r with
              | true =>
                have HLu := Lib.hid (show lubB L a b c = true by rw [lubB, HS.out]; exact HR.out.symm)
                go_wp2
                go_ret
                exact ⟨ret_int (by rw [rJoinI]; exact (idxOf_at _ _ c 0 (by rw [List.length_range]; exact hlt) (by rw [List.take_range, Nat.min_eq_left hc]; exact HA.out) (by rw [nth_range hlt]; exact HLu.out)).symm), below_le (HB0.out.trans (below_le HBd.out (by rw [HS0.out]; omega))) (Nat.le_refl _)⟩
              | false =>
                have HLu := Lib.hid (show lubB L a b c = false by rw [lubB, HS.out]; exact HR.out.symm)
                go_wp2
                go_roundw
                case rel => exact ⟨c + 1, by omega, by go_num, all_range_snoc _ c HA.out (by rw [HLu.out]; rfl), HBd.out⟩
                case measure => simp [intOf]; omega
    · have hce : c = L.up.length := by omega
      subst hce
      go_wp2
      go_ret
      exact ⟨ret_int (by rw [rJoinI]; exact (idxOf_none _ _ HA.out).symm), below_le (HB0.out.trans (below_le HB.out (by rw [HS0.out]; omega))) (Nat.le_refl _)⟩
end Go.Proofs.YtmcafcgbbhcjhaaDoor
