/- reticentref01: order. -/
import Derived.Test.YtmcafcgbbhcjhaaDoorRefG
namespace Go.Proofs.YtmcafcgbbhcjhaaDoor
open Go.RowKit Go.Shelf Go.Proofs.YtmcafcgbbhcjhaaDoorW.PrintWords
attribute [local go_sem] Oper.semAt_some

def ordC (L : Lat) (a b c : Nat) : Bool := !(flowsB L a b && flowsB L b c && !flowsB L a c)
def ordB (L : Lat) (a b : Nat) : Bool := !(!decide (a = b) && flowsB L a b && flowsB L b a) && (List.range L.up.length).all (ordC L a b)
def ordA (L : Lat) (a : Nat) : Bool := flowsB L a a && (List.range L.up.length).all (ordB L a)
def rOrderB (L : Lat) : Bool := (List.range L.up.length).all (ordA L)
theorem all_no {n k : Nat} {p : Nat → Bool} (hk : k < n) (h : p k = false) : (List.range n).all p = false := by
  rw [List.all_eq_false]
  exact ⟨k, List.mem_range.2 hk, by simp [h]⟩
theorem ordA_no {L : Lat} {a : Nat} (ha : a < L.up.length) (h : ordA L a = false) : rOrderB L = false := all_no ha h
theorem ordB_no {L : Lat} {a b : Nat} (hb : b < L.up.length) (h : ordB L a b = false) : ordA L a = false := by rw [ordA, all_no hb h, Bool.and_false]
theorem ordC_no {L : Lat} {a b c : Nat} (hc : c < L.up.length) (h : ordC L a b c = false) : ordB L a b = false := by rw [ordB, all_no hc h, Bool.and_false]
set_option maxRecDepth 100000 in
set_option maxHeartbeats 8000000 in
theorem rOrder_any {w : World} {An Au : Option Addr} {cn cu : Nat} {L : Lat} (hL : LatAt w An cn Au cu L) :
    Calls Tryd.prog 28 #[.agg #[.slice An L.names.length cn, .slice Au L.up.length cu]] w fun e w' => e = .returned (.bool (rOrderB L)) ∧ Below w.heap.size w w' := by
  have hm := hL.lenu
  have HL := Lib.hid hL
  clear hL
  generalize hWb : w.alloc (.cells #[.slice An L.names.length cn, .slice Au L.up.length cu] 25) = WB
  have HWB := Lib.hid hWb
  have HB0 := Lib.hid (show Below w.heap.size w WB by rw [← hWb]; exact below_new _)
  have hs0 : WB.heap.size = w.heap.size + 1 := by rw [← hWb]; simp
  have HS0 := Lib.hid hs0
  have HC0 := Lib.hid (show WB.cell? ⟨w.heap.size, 0, none⟩ = some (.slice An L.names.length cn) by rw [← hWb]; simp [go_sem])
  have HC1 := Lib.hid (show WB.cell? ⟨w.heap.size, 1, none⟩ = some (.slice Au L.up.length cu) by rw [← hWb]; simp [go_sem])
  have HLB := Lib.hid (HL.out.below HB0.out)
  have HK : Hid (∀ W : World, Below WB.heap.size WB W → W.cell? ⟨w.heap.size, 0, none⟩ = some (.slice An L.names.length cn) ∧ W.cell? ⟨w.heap.size, 1, none⟩ = some (.slice Au L.up.length cu) ∧ w.heap.size < W.heap.size) := Lib.hid (fun W hb =>
    ⟨(hb.cell (p := ⟨w.heap.size, 0, none⟩) (by rw [HS0.out]; simp)).trans HC0.out, (hb.cell (p := ⟨w.heap.size, 1, none⟩) (by rw [HS0.out]; simp)).trans HC1.out, Nat.lt_of_lt_of_le (by rw [HS0.out]; omega) hb.size⟩)
  clear hWb hs0
  go_enter Tryd.func28, Tryd.ntmps28
  go_wp2
  rw [HWB.out]
  go_loopw [9] (fun i wr => ∃ a : Nat, a ≤ L.up.length ∧ i = .int .i64 a ∧ (List.range a).all (ordA L) = true ∧ Below WB.heap.size WB wr) (fun i _ => L.up.length - (intOf i).toNat)
  case atStart => exact ⟨0, Nat.zero_le _, rfl, rfl, Below.refl _ _⟩
  case round =>
    obtain ⟨a, haa, rfl, hall, hB⟩ := hrel
    have HA := Lib.hid hall
    have HB := Lib.hid hB
    obtain ⟨hc0, hc1, hsz⟩ := HK.out _ hB
    clear hall hB
    by_cases hal : a < L.up.length
    · cases h1 : flowsB L a a with
      | false =>
        have HNo := Lib.hid (show ordA L a = false by simp [ordA, h1])
        have H1 := Lib.hid h1
        clear h1
        go_wp2_with fail
        refine (rFlows_is (HLB.out.below HB.out) hal hal H1.out).mono ?_
        rintro e wy ⟨rfl, hby⟩
        have HBy := Lib.hid (below_step HB.out HB.out.size hby)
        clear hby hc0 hc1 hsz
        obtain ⟨hc0, hc1, hsz⟩ := HK.out _ HBy.out
        have HF := Lib.hid (show rOrderB L = false from ordA_no hal HNo.out)
        go_wp2
        go_ret
        exact ⟨ret_bool HF.out.symm, below_le (HB0.out.trans (below_le HBy.out (by rw [HS0.out]; omega))) (Nat.le_refl _)⟩
      | true =>
        have H1 := Lib.hid h1
        clear h1
        go_wp2_with fail
        refine (rFlows_is (HLB.out.below HB.out) hal hal H1.out).mono ?_
        rintro e wz ⟨rfl, hbz⟩
        have HBz := Lib.hid (below_step HB.out HB.out.size hbz)
        clear hbz hc0 hc1 hsz
        obtain ⟨hc0, hc1, hsz⟩ := HK.out _ HBz.out
        go_wp2_with fail
        go_loopw [20] (fun i wr => ∃ b : Nat, b ≤ L.up.length ∧ i = .int .i64 b ∧ (List.range b).all (ordB L a) = true ∧ Below WB.heap.size WB wr) (fun i _ => L.up.length - (intOf i).toNat)
        case atStart => exact ⟨0, Nat.zero_le _, rfl, rfl, HBz.out⟩
        case round =>
          obtain ⟨b, hbb, rfl, hball, hB⟩ := hrel
          have HBa := Lib.hid hball
          have HBb := Lib.hid hB
          clear hball hB hc0 hc1 hsz
          obtain ⟨hc0, hc1, hsz⟩ := HK.out _ HBb.out
          by_cases hbl : b < L.up.length
          · by_cases hab : a = b
            · have HNb := Lib.hid (show (!(!decide (a = b) && flowsB L a b && flowsB L b a)) = true by simp [hab])
              have hq2 : ((a : Int) != (b : Int)) = false := by rw [bne_eq_false_iff_eq]; omega
              clear hab
              go_wp2_with fail
              go_loopw [41] (fun i wr => ∃ c : Nat, c ≤ L.up.length ∧ i = .int .i64 c ∧ (List.range c).all (ordC L a b) = true ∧ Below WB.heap.size WB wr) (fun i _ => L.up.length - (intOf i).toNat)
              case atStart => exact ⟨0, Nat.zero_le _, rfl, rfl, HBb.out⟩
              case round =>
                obtain ⟨c, hcc, rfl, hcall, hB⟩ := hrel
                have HCa := Lib.hid hcall
                have HBc := Lib.hid hB
                clear hcall hB hc0 hc1 hsz
                obtain ⟨hc0, hc1, hsz⟩ := HK.out _ HBc.out
                by_cases hcl : c < L.up.length
                · cases g1 : flowsB L a b with
                  | false =>
                    have HO := Lib.hid (show ordC L a b c = true by simp [ordC, g1])
                    have G1 := Lib.hid g1
                    clear g1
                    go_wp2_with fail
                    refine (rFlows_is (HLB.out.below HBc.out) hal hbl G1.out).mono ?_
                    rintro e we1 ⟨rfl, hbe1⟩
                    have HBe1 := Lib.hid (below_step HBc.out HBc.out.size hbe1)
                    clear hbe1 hc0 hc1 hsz
                    obtain ⟨hc0, hc1, hsz⟩ := HK.out _ HBe1.out
                    go_wp2
                    go_roundw
                    case rel => exact ⟨c + 1, by omega, by go_num, all_range_snoc _ c HCa.out HO.out, HBe1.out⟩
                    case measure => simp [intOf]; omega
                  | true =>
                    have G1 := Lib.hid g1
                    cases g2 : flowsB L b c with
                    | false =>
                      have HO := Lib.hid (show ordC L a b c = true by simp [ordC, g2])
                      have G2 := Lib.hid g2
                      clear g1 g2
                      go_wp2_with fail
                      refine (rFlows_is (HLB.out.below HBc.out) hal hbl G1.out).mono ?_
                      rintro e we1 ⟨rfl, hbe1⟩
                      have HBe1 := Lib.hid (below_step HBc.out HBc.out.size hbe1)
                      clear hbe1 hc0 hc1 hsz
                      obtain ⟨hc0, hc1, hsz⟩ := HK.out _ HBe1.out
                      go_wp2_with fail
                      refine (rFlows_is (HLB.out.below HBe1.out) hbl hcl G2.out).mono ?_
                      rintro e we2 ⟨rfl, hbe2⟩
                      have HBe2 := Lib.hid (below_step HBe1.out HBe1.out.size hbe2)
                      clear hbe2 hc0 hc1 hsz
                      obtain ⟨hc0, hc1, hsz⟩ := HK.out _ HBe2.out
                      go_wp2
                      go_roundw
                      case rel => exact ⟨c + 1, by omega, by go_num, all_range_snoc _ c HCa.out HO.out, HBe2.out⟩
                      case measure => simp [intOf]; omega
                    | true =>
                      have G2 := Lib.hid g2
                      cases g3 : flowsB L a c with
                      | true =>
                        have HO := Lib.hid (show ordC L a b c = true by simp [ordC, g3])
                        have G3 := Lib.hid g3
                        clear g1 g2 g3
                        go_wp2_with fail
                        refine (rFlows_is (HLB.out.below HBc.out) hal hbl G1.out).mono ?_
                        rintro e we1 ⟨rfl, hbe1⟩
                        have HBe1 := Lib.hid (below_step HBc.out HBc.out.size hbe1)
                        clear hbe1 hc0 hc1 hsz
                        obtain ⟨hc0, hc1, hsz⟩ := HK.out _ HBe1.out
                        go_wp2_with fail
                        refine (rFlows_is (HLB.out.below HBe1.out) hbl hcl G2.out).mono ?_
                        rintro e we2 ⟨rfl, hbe2⟩
                        have HBe2 := Lib.hid (below_step HBe1.out HBe1.out.size hbe2)
                        clear hbe2 hc0 hc1 hsz
                        obtain ⟨hc0, hc1, hsz⟩ := HK.out _ HBe2.out
                        go_wp2_with fail
                        refine (rFlows_is (HLB.out.below HBe2.out) hal hcl G3.out).mono ?_
                        rintro e we3 ⟨rfl, hbe3⟩
                        have HBe3 := Lib.hid (below_step HBe2.out HBe2.out.size hbe3)
                        clear hbe3 hc0 hc1 hsz
                        obtain ⟨hc0, hc1, hsz⟩ := HK.out _ HBe3.out
                        go_wp2
                        go_roundw
                        case rel => exact ⟨c + 1, by omega, by go_num, all_range_snoc _ c HCa.out HO.out, HBe3.out⟩
                        case measure => simp [intOf]; omega
                      | false =>
                        have HO := Lib.hid (show ordC L a b c = false by simp [ordC, g1, g2, g3])
                        have G3 := Lib.hid g3
                        clear g1 g2 g3
                        go_wp2_with fail
                        refine (rFlows_is (HLB.out.below HBc.out) hal hbl G1.out).mono ?_
                        rintro e we1 ⟨rfl, hbe1⟩
                        have HBe1 := Lib.hid (below_step HBc.out HBc.out.size hbe1)
                        clear hbe1 hc0 hc1 hsz
                        obtain ⟨hc0, hc1, hsz⟩ := HK.out _ HBe1.out
                        go_wp2_with fail
                        refine (rFlows_is (HLB.out.below HBe1.out) hbl hcl G2.out).mono ?_
                        rintro e we2 ⟨rfl, hbe2⟩
                        have HBe2 := Lib.hid (below_step HBe1.out HBe1.out.size hbe2)
                        clear hbe2 hc0 hc1 hsz
                        obtain ⟨hc0, hc1, hsz⟩ := HK.out _ HBe2.out
                        go_wp2_with fail
                        refine (rFlows_is (HLB.out.below HBe2.out) hal hcl G3.out).mono ?_
                        rintro e we3 ⟨rfl, hbe3⟩
                        have HBe3 := Lib.hid (below_step HBe2.out HBe2.out.size hbe3)
                        clear hbe3 hc0 hc1 hsz
                        obtain ⟨hc0, hc1, hsz⟩ := HK.out _ HBe3.out
                        have HF := Lib.hid (show rOrderB L = false from ordA_no hal (ordB_no hbl (ordC_no hcl HO.out)))
                        go_wp2
                        go_ret
                        exact ⟨ret_bool HF.out.symm, below_le (HB0.out.trans (below_le HBe3.out (by rw [HS0.out]; omega))) (Nat.le_refl _)⟩
                · have hce : c = L.up.length := by omega
                  subst hce
                  have HOb := Lib.hid (show ordB L a b = true by rw [ordB, HCa.out, HNb.out]; rfl)
                  go_wp2
                  go_roundw
                  case rel => exact ⟨b + 1, by omega, by go_num, all_range_snoc _ b HBa.out HOb.out, HBc.out⟩
                  case measure => simp [intOf]; omega
            · have hq2 : ((a : Int) != (b : Int)) = true := by rw [bne_iff_ne]; omega
              cases f1 : flowsB L a b with
              | false =>
                have HNb := Lib.hid (show (!(!decide (a = b) && flowsB L a b && flowsB L b a)) = true by simp [f1])
                have F1 := Lib.hid f1
                clear f1 hab
                go_wp2_with fail
                refine (rFlows_is (HLB.out.below HBb.out) hal hbl F1.out).mono ?_
                rintro e w1 ⟨rfl, hb1⟩
                have HB1 := Lib.hid (below_step HBb.out HBb.out.size hb1)
                clear hb1 hc0 hc1 hsz
                obtain ⟨hc0, hc1, hsz⟩ := HK.out _ HB1.out
                go_wp2_with fail
                go_loopw [41] (fun i wr => ∃ c : Nat, c ≤ L.up.length ∧ i = .int .i64 c ∧ (List.range c).all (ordC L a b) = true ∧ Below WB.heap.size WB wr) (fun i _ => L.up.length - (intOf i).toNat)
                case atStart => exact ⟨0, Nat.zero_le _, rfl, rfl, HB1.out⟩
                case round =>
                  obtain ⟨c, hcc, rfl, hcall, hB⟩ := hrel
                  have HCa := Lib.hid hcall
                  have HBc := Lib.hid hB
                  clear hcall hB hc0 hc1 hsz
                  obtain ⟨hc0, hc1, hsz⟩ := HK.out _ HBc.out
                  by_cases hcl : c < L.up.length
                  · cases g1 : flowsB L a b with
                    | false =>
                      have HO := Lib.hid (show ordC L a b c = true by simp [ordC, g1])
                      have G1 := Lib.hid g1
                      clear g1
                      go_wp2_with fail
                      refine (rFlows_is (HLB.out.below HBc.out) hal hbl G1.out).mono ?_
                      rintro e we1 ⟨rfl, hbe1⟩
                      have HBe1 := Lib.hid (below_step HBc.out HBc.out.size hbe1)
                      clear hbe1 hc0 hc1 hsz
                      obtain ⟨hc0, hc1, hsz⟩ := HK.out _ HBe1.out
                      go_wp2
                      go_roundw
                      case rel => exact ⟨c + 1, by omega, by go_num, all_range_snoc _ c HCa.out HO.out, HBe1.out⟩
                      case measure => simp [intOf]; omega
                    | true =>
                      have G1 := Lib.hid g1
                      cases g2 : flowsB L b c with
                      | false =>
                        have HO := Lib.hid (show ordC L a b c = true by simp [ordC, g2])
                        have G2 := Lib.hid g2
                        clear g1 g2
                        go_wp2_with fail
                        refine (rFlows_is (HLB.out.below HBc.out) hal hbl G1.out).mono ?_
                        rintro e we1 ⟨rfl, hbe1⟩
                        have HBe1 := Lib.hid (below_step HBc.out HBc.out.size hbe1)
                        clear hbe1 hc0 hc1 hsz
                        obtain ⟨hc0, hc1, hsz⟩ := HK.out _ HBe1.out
                        go_wp2_with fail
                        refine (rFlows_is (HLB.out.below HBe1.out) hbl hcl G2.out).mono ?_
                        rintro e we2 ⟨rfl, hbe2⟩
                        have HBe2 := Lib.hid (below_step HBe1.out HBe1.out.size hbe2)
                        clear hbe2 hc0 hc1 hsz
                        obtain ⟨hc0, hc1, hsz⟩ := HK.out _ HBe2.out
                        go_wp2
                        go_roundw
                        case rel => exact ⟨c + 1, by omega, by go_num, all_range_snoc _ c HCa.out HO.out, HBe2.out⟩
                        case measure => simp [intOf]; omega
                      | true =>
                        have G2 := Lib.hid g2
                        cases g3 : flowsB L a c with
                        | true =>
                          have HO := Lib.hid (show ordC L a b c = true by simp [ordC, g3])
                          have G3 := Lib.hid g3
                          clear g1 g2 g3
                          go_wp2_with fail
                          refine (rFlows_is (HLB.out.below HBc.out) hal hbl G1.out).mono ?_
                          rintro e we1 ⟨rfl, hbe1⟩
                          have HBe1 := Lib.hid (below_step HBc.out HBc.out.size hbe1)
                          clear hbe1 hc0 hc1 hsz
                          obtain ⟨hc0, hc1, hsz⟩ := HK.out _ HBe1.out
                          go_wp2_with fail
                          refine (rFlows_is (HLB.out.below HBe1.out) hbl hcl G2.out).mono ?_
                          rintro e we2 ⟨rfl, hbe2⟩
                          have HBe2 := Lib.hid (below_step HBe1.out HBe1.out.size hbe2)
                          clear hbe2 hc0 hc1 hsz
                          obtain ⟨hc0, hc1, hsz⟩ := HK.out _ HBe2.out
                          go_wp2_with fail
                          refine (rFlows_is (HLB.out.below HBe2.out) hal hcl G3.out).mono ?_
                          rintro e we3 ⟨rfl, hbe3⟩
                          have HBe3 := Lib.hid (below_step HBe2.out HBe2.out.size hbe3)
                          clear hbe3 hc0 hc1 hsz
                          obtain ⟨hc0, hc1, hsz⟩ := HK.out _ HBe3.out
                          go_wp2
                          go_roundw
                          case rel => exact ⟨c + 1, by omega, by go_num, all_range_snoc _ c HCa.out HO.out, HBe3.out⟩
                          case measure => simp [intOf]; omega
                        | false =>
                          have HO := Lib.hid (show ordC L a b c = false by simp [ordC, g1, g2, g3])
                          have G3 := Lib.hid g3
                          clear g1 g2 g3
                          go_wp2_with fail
                          refine (rFlows_is (HLB.out.below HBc.out) hal hbl G1.out).mono ?_
                          rintro e we1 ⟨rfl, hbe1⟩
                          have HBe1 := Lib.hid (below_step HBc.out HBc.out.size hbe1)
                          clear hbe1 hc0 hc1 hsz
                          obtain ⟨hc0, hc1, hsz⟩ := HK.out _ HBe1.out
                          go_wp2_with fail
                          refine (rFlows_is (HLB.out.below HBe1.out) hbl hcl G2.out).mono ?_
                          rintro e we2 ⟨rfl, hbe2⟩
                          have HBe2 := Lib.hid (below_step HBe1.out HBe1.out.size hbe2)
                          clear hbe2 hc0 hc1 hsz
                          obtain ⟨hc0, hc1, hsz⟩ := HK.out _ HBe2.out
                          go_wp2_with fail
                          refine (rFlows_is (HLB.out.below HBe2.out) hal hcl G3.out).mono ?_
                          rintro e we3 ⟨rfl, hbe3⟩
                          have HBe3 := Lib.hid (below_step HBe2.out HBe2.out.size hbe3)
                          clear hbe3 hc0 hc1 hsz
                          obtain ⟨hc0, hc1, hsz⟩ := HK.out _ HBe3.out
                          have HF := Lib.hid (show rOrderB L = false from ordA_no hal (ordB_no hbl (ordC_no hcl HO.out)))
                          go_wp2
                          go_ret
                          exact ⟨ret_bool HF.out.symm, below_le (HB0.out.trans (below_le HBe3.out (by rw [HS0.out]; omega))) (Nat.le_refl _)⟩
                  · have hce : c = L.up.length := by omega
                    subst hce
                    have HOb := Lib.hid (show ordB L a b = true by rw [ordB, HCa.out, HNb.out]; rfl)
                    go_wp2
                    go_roundw
                    case rel => exact ⟨b + 1, by omega, by go_num, all_range_snoc _ b HBa.out HOb.out, HBc.out⟩
                    case measure => simp [intOf]; omega
              | true =>
                have F1 := Lib.hid f1
                cases f2 : flowsB L b a with
                | false =>
                  have HNb := Lib.hid (show (!(!decide (a = b) && flowsB L a b && flowsB L b a)) = true by simp [f2])
                  have F2 := Lib.hid f2
                  clear f1 f2 hab
                  go_wp2_with fail
                  refine (rFlows_is (HLB.out.below HBb.out) hal hbl F1.out).mono ?_
                  rintro e w1 ⟨rfl, hb1⟩
                  have HB1 := Lib.hid (below_step HBb.out HBb.out.size hb1)
                  clear hb1 hc0 hc1 hsz
                  obtain ⟨hc0, hc1, hsz⟩ := HK.out _ HB1.out
                  go_wp2_with fail
                  refine (rFlows_is (HLB.out.below HB1.out) hbl hal F2.out).mono ?_
                  rintro e w2 ⟨rfl, hb2⟩
                  have HB2 := Lib.hid (below_step HB1.out HB1.out.size hb2)
                  clear hb2 hc0 hc1 hsz
                  obtain ⟨hc0, hc1, hsz⟩ := HK.out _ HB2.out
                  go_wp2_with fail
                  go_loopw [41] (fun i wr => ∃ c : Nat, c ≤ L.up.length ∧ i = .int .i64 c ∧ (List.range c).all (ordC L a b) = true ∧ Below WB.heap.size WB wr) (fun i _ => L.up.length - (intOf i).toNat)
                  case atStart => exact ⟨0, Nat.zero_le _, rfl, rfl, HB2.out⟩
                  case round =>
                    obtain ⟨c, hcc, rfl, hcall, hB⟩ := hrel
                    have HCa := Lib.hid hcall
                    have HBc := Lib.hid hB
                    clear hcall hB hc0 hc1 hsz
                    obtain ⟨hc0, hc1, hsz⟩ := HK.out _ HBc.out
                    by_cases hcl : c < L.up.length
                    · cases g1 : flowsB L a b with
                      | false =>
                        have HO := Lib.hid (show ordC L a b c = true by simp [ordC, g1])
                        have G1 := Lib.hid g1
                        clear g1
                        go_wp2_with fail
                        refine (rFlows_is (HLB.out.below HBc.out) hal hbl G1.out).mono ?_
                        rintro e we1 ⟨rfl, hbe1⟩
                        have HBe1 := Lib.hid (below_step HBc.out HBc.out.size hbe1)
                        clear hbe1 hc0 hc1 hsz
                        obtain ⟨hc0, hc1, hsz⟩ := HK.out _ HBe1.out
                        go_wp2
                        go_roundw
                        case rel => exact ⟨c + 1, by omega, by go_num, all_range_snoc _ c HCa.out HO.out, HBe1.out⟩
                        case measure => simp [intOf]; omega
                      | true =>
                        have G1 := Lib.hid g1
                        cases g2 : flowsB L b c with
                        | false =>
                          have HO := Lib.hid (show ordC L a b c = true by simp [ordC, g2])
                          have G2 := Lib.hid g2
                          clear g1 g2
                          go_wp2_with fail
                          refine (rFlows_is (HLB.out.below HBc.out) hal hbl G1.out).mono ?_
                          rintro e we1 ⟨rfl, hbe1⟩
                          have HBe1 := Lib.hid (below_step HBc.out HBc.out.size hbe1)
                          clear hbe1 hc0 hc1 hsz
                          obtain ⟨hc0, hc1, hsz⟩ := HK.out _ HBe1.out
                          go_wp2_with fail
                          refine (rFlows_is (HLB.out.below HBe1.out) hbl hcl G2.out).mono ?_
                          rintro e we2 ⟨rfl, hbe2⟩
                          have HBe2 := Lib.hid (below_step HBe1.out HBe1.out.size hbe2)
                          clear hbe2 hc0 hc1 hsz
                          obtain ⟨hc0, hc1, hsz⟩ := HK.out _ HBe2.out
                          go_wp2
                          go_roundw
                          case rel => exact ⟨c + 1, by omega, by go_num, all_range_snoc _ c HCa.out HO.out, HBe2.out⟩
                          case measure => simp [intOf]; omega
                        | true =>
                          have G2 := Lib.hid g2
                          cases g3 : flowsB L a c with
                          | true =>
                            have HO := Lib.hid (show ordC L a b c = true by simp [ordC, g3])
                            have G3 := Lib.hid g3
                            clear g1 g2 g3
                            go_wp2_with fail
                            refine (rFlows_is (HLB.out.below HBc.out) hal hbl G1.out).mono ?_
                            rintro e we1 ⟨rfl, hbe1⟩
                            have HBe1 := Lib.hid (below_step HBc.out HBc.out.size hbe1)
                            clear hbe1 hc0 hc1 hsz
                            obtain ⟨hc0, hc1, hsz⟩ := HK.out _ HBe1.out
                            go_wp2_with fail
                            refine (rFlows_is (HLB.out.below HBe1.out) hbl hcl G2.out).mono ?_
                            rintro e we2 ⟨rfl, hbe2⟩
                            have HBe2 := Lib.hid (below_step HBe1.out HBe1.out.size hbe2)
                            clear hbe2 hc0 hc1 hsz
                            obtain ⟨hc0, hc1, hsz⟩ := HK.out _ HBe2.out
                            go_wp2_with fail
                            refine (rFlows_is (HLB.out.below HBe2.out) hal hcl G3.out).mono ?_
                            rintro e we3 ⟨rfl, hbe3⟩
                            have HBe3 := Lib.hid (below_step HBe2.out HBe2.out.size hbe3)
                            clear hbe3 hc0 hc1 hsz
                            obtain ⟨hc0, hc1, hsz⟩ := HK.out _ HBe3.out
                            go_wp2
                            go_roundw
                            case rel => exact ⟨c + 1, by omega, by go_num, all_range_snoc _ c HCa.out HO.out, HBe3.out⟩
                            case measure => simp [intOf]; omega
                          | false =>
                            have HO := Lib.hid (show ordC L a b c = false by simp [ordC, g1, g2, g3])
                            have G3 := Lib.hid g3
                            clear g1 g2 g3
                            go_wp2_with fail
                            refine (rFlows_is (HLB.out.below HBc.out) hal hbl G1.out).mono ?_
                            rintro e we1 ⟨rfl, hbe1⟩
                            have HBe1 := Lib.hid (below_step HBc.out HBc.out.size hbe1)
                            clear hbe1 hc0 hc1 hsz
                            obtain ⟨hc0, hc1, hsz⟩ := HK.out _ HBe1.out
                            go_wp2_with fail
                            refine (rFlows_is (HLB.out.below HBe1.out) hbl hcl G2.out).mono ?_
                            rintro e we2 ⟨rfl, hbe2⟩
                            have HBe2 := Lib.hid (below_step HBe1.out HBe1.out.size hbe2)
                            clear hbe2 hc0 hc1 hsz
                            obtain ⟨hc0, hc1, hsz⟩ := HK.out _ HBe2.out
                            go_wp2_with fail
                            refine (rFlows_is (HLB.out.below HBe2.out) hal hcl G3.out).mono ?_
                            rintro e we3 ⟨rfl, hbe3⟩
                            have HBe3 := Lib.hid (below_step HBe2.out HBe2.out.size hbe3)
                            clear hbe3 hc0 hc1 hsz
                            obtain ⟨hc0, hc1, hsz⟩ := HK.out _ HBe3.out
                            have HF := Lib.hid (show rOrderB L = false from ordA_no hal (ordB_no hbl (ordC_no hcl HO.out)))
                            go_wp2
                            go_ret
                            exact ⟨ret_bool HF.out.symm, below_le (HB0.out.trans (below_le HBe3.out (by rw [HS0.out]; omega))) (Nat.le_refl _)⟩
                    · have hce : c = L.up.length := by omega
                      subst hce
                      have HOb := Lib.hid (show ordB L a b = true by rw [ordB, HCa.out, HNb.out]; rfl)
                      go_wp2
                      go_roundw
                      case rel => exact ⟨b + 1, by omega, by go_num, all_range_snoc _ b HBa.out HOb.out, HBc.out⟩
                      case measure => simp [intOf]; omega
                | true =>
                  have HNo := Lib.hid (show ordB L a b = false by simp [ordB, f1, f2, hab])
                  have F2 := Lib.hid f2
                  clear f1 f2 hab
                  go_wp2_with fail
                  refine (rFlows_is (HLB.out.below HBb.out) hal hbl F1.out).mono ?_
                  rintro e w1 ⟨rfl, hb1⟩
                  have HB1 := Lib.hid (below_step HBb.out HBb.out.size hb1)
                  clear hb1 hc0 hc1 hsz
                  obtain ⟨hc0, hc1, hsz⟩ := HK.out _ HB1.out
                  go_wp2_with fail
                  refine (rFlows_is (HLB.out.below HB1.out) hbl hal F2.out).mono ?_
                  rintro e w2 ⟨rfl, hb2⟩
                  have HB2 := Lib.hid (below_step HB1.out HB1.out.size hb2)
                  clear hb2 hc0 hc1 hsz
                  obtain ⟨hc0, hc1, hsz⟩ := HK.out _ HB2.out
                  have HF := Lib.hid (show rOrderB L = false from ordA_no hal (ordB_no hbl HNo.out))
                  go_wp2
                  go_ret
                  exact ⟨ret_bool HF.out.symm, below_le (HB0.out.trans (below_le HB2.out (by rw [HS0.out]; omega))) (Nat.le_refl _)⟩
          · have hbe : b = L.up.length := by omega
            subst hbe
            have HOa := Lib.hid (show ordA L a = true by rw [ordA, H1.out, HBa.out]; rfl)
            go_wp2
            go_roundw
            case rel => exact ⟨a + 1, by omega, by go_num, all_range_snoc _ a HA.out HOa.out, HBb.out⟩
            case measure => simp [intOf]; omega
    · have hae : a = L.up.length := by omega
      subst hae
      go_wp2
      go_ret
      exact ⟨ret_bool (show true = rOrderB L from HA.out.symm), below_le (HB0.out.trans (below_le HB.out (by rw [HS0.out]; omega))) (Nat.le_refl _)⟩
end Go.Proofs.YtmcafcgbbhcjhaaDoor
