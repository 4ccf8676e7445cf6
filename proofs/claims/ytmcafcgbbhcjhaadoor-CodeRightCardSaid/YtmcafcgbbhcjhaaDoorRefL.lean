/- reticentref01: Check. -/
import Derived.Test.YtmcafcgbbhcjhaaDoorRefK
import Derived.Test.YtmcafcgbbhcjhaaDoorLawB
namespace Go.Proofs.YtmcafcgbbhcjhaaDoor
open Go.RowKit Go.Shelf Go.Proofs.YtmcafcgbbhcjhaaDoorW.PrintWords
attribute [local go_sem] Oper.semAt_some

theorem rRow_no {L : Lat} {a : Nat} (ha : a < L.up.length) (h : rRowOk L a = false) : rJoinsB L = false := all_no ha h
theorem rPair_no {L : Lat} {a b : Nat} (hb : b < L.up.length) (h : rPairOk L a b = false) : rRowOk L a = false := all_no hb h
set_option maxRecDepth 100000 in
set_option maxHeartbeats 4000000 in
theorem rCheck_any {w : World} {An Au : Option Addr} {cn cu : Nat} {L : Lat} (hL : LatAt w An cn Au cu L) :
    Calls Tryd.prog 7 #[.agg #[.slice An L.names.length cn, .slice Au L.up.length cu]] w fun e w' => e = .returned (.int .i64 (checkE L)) ∧ Below w.heap.size w w' := by
  rw [← rCheck_same]
  have hm := hL.lenu
  have HL := Lib.hid hL
  clear hL
  generalize hWb : w.alloc (.cells #[.slice An L.names.length cn, .slice Au L.up.length cu] 25) = WB
  have HWB := Lib.hid hWb
  have HB0 := Lib.hid (show Below w.heap.size w WB by rw [← hWb]; exact below_new _)
  have hs0 : WB.heap.size = w.heap.size + 1 := by rw [← hWb]; simp
  have HS0 := Lib.hid hs0
  have hc0 : WB.cell? ⟨w.heap.size, 0, none⟩ = some (.slice An L.names.length cn) := by rw [← hWb]; simp [go_sem]
  have hc1 : WB.cell? ⟨w.heap.size, 1, none⟩ = some (.slice Au L.up.length cu) := by rw [← hWb]; simp [go_sem]
  have hsz : w.heap.size < WB.heap.size := by rw [hs0]; omega
  have HLB := Lib.hid (HL.out.below HB0.out)
  have HFin : Hid (∀ i : Aft WB, Below w.heap.size w i.w) := Lib.hid (fun i => below_step HB0.out HB0.out.size i.below)
  clear hWb hs0
  cases hM : mayB L with
  | false =>
    have HF := Lib.hid (show rCheckE L = 1 by simp [rCheckE, hM])
    have HM := Lib.hid (rMay_any HLB.out)
    rw [hM] at HM
    clear hM
    go_enter Tryd.func7, Tryd.ntmps7
    go_wp2_with fail
    rw [HWB.out]
    refine (aft0 HM.out).mono ?_
    rintro e _ ⟨rfl, i, rfl⟩
    go_wp2
    go_ret
    exact ⟨ret_int HF.out.symm, HFin.out i⟩
  | true =>
    have HM := Lib.hid (rMay_any HLB.out)
    rw [hM] at HM
    have HMb := Lib.hid hM
    clear hM
    cases hO : rOrderB L with
    | false =>
      have HF := Lib.hid (show rCheckE L = 2 by simp [rCheckE, HMb.out, hO])
      have HO := Lib.hid (fun i : Aft WB => rOrder_any (HLB.out.below i.below))
      rw [hO] at HO
      clear hO
      go_enter Tryd.func7, Tryd.ntmps7
      go_wp2_with fail
      rw [HWB.out]
      refine (aft0 HM.out).mono ?_
      rintro e _ ⟨rfl, i, rfl⟩
      go_wp2_with fail
      refine (aft_call (HO.out i)).mono ?_
      rintro e _ ⟨rfl, j, rfl⟩
      go_wp2
      go_ret
      exact ⟨ret_int HF.out.symm, HFin.out j⟩
    | true =>
      have HO := Lib.hid (fun i : Aft WB => rOrder_any (HLB.out.below i.below))
      rw [hO] at HO
      have HOb := Lib.hid hO
      clear hO
      have HNo : Hid (∀ a b, a < L.up.length → b < L.up.length → rPairOk L a b = false → rCheckE L = 3) := Lib.hid fun a b ha hb h => by
        have := rRow_no ha (rPair_no hb h)
        simp [rCheckE, HMb.out, HOb.out, this]
      have HYes : Hid (rJoinsB L = true → rCheckE L = 0) := Lib.hid fun h => by simp [rCheckE, HMb.out, HOb.out, h]
      go_enter Tryd.func7, Tryd.ntmps7
      go_wp2_with fail
      rw [HWB.out]
      refine (aft0 HM.out).mono ?_
      rintro e _ ⟨rfl, i, rfl⟩
      go_wp2_with fail
      refine (aft_call (HO.out i)).mono ?_
      rintro e _ ⟨rfl, j, rfl⟩
      go_wp2
      go_loopw [14] (fun x wr => ∃ a : Nat, a ≤ L.up.length ∧ x = .int .i64 a ∧ (List.range a).all (rRowOk L) = true ∧ ∃ i : Aft WB, wr = i.w) (fun x _ => L.up.length - (intOf x).toNat)
      case atStart => exact ⟨0, Nat.zero_le _, rfl, rfl, _, rfl⟩
      case round =>
        obtain ⟨a, haa, rfl, hall, i, rfl⟩ := hrel
        have HA := Lib.hid hall
        clear hall
        by_cases hal : a < L.up.length
        · go_wp2
          go_loopw [20] (fun x wr => ∃ b : Nat, b ≤ L.up.length ∧ x = .int .i64 b ∧ (List.range b).all (rPairOk L a) = true ∧ ∃ i : Aft WB, wr = i.w) (fun x _ => L.up.length - (intOf x).toNat)
          case atStart => exact ⟨0, Nat.zero_le _, rfl, rfl, _, rfl⟩
          case round =>
            obtain ⟨b, hbb, rfl, hball, i, rfl⟩ := hrel
            have HAb := Lib.hid hball
            clear hball
            by_cases hbl : b < L.up.length
            · have HJ := Lib.hid (fun i : Aft WB => rJoin_any (HLB.out.below i.below) hal hbl)
              have HN := Lib.hid (fun i : Aft WB => rMeet_any (HLB.out.below i.below) hal hbl)
              have HP : Hid (rPairOk L a b = !(decide (rJoinI L a b < 0) || decide (rMeetI L a b < 0))) := Lib.hid rfl
              generalize rJoinI L a b = x at *
              generalize rMeetI L a b = y at *
              by_cases hx : x < 0
              · have HF := Lib.hid (HNo.out a b hal hbl (by rw [HP.out]; simp [hx]))
                go_wp2_with (go_at_call 29; refine (aft_call (HJ.out _)).mono ?_; rintro e _ ⟨rfl, j, rfl⟩)
                go_ret
                exact ⟨ret_int HF.out.symm, HFin.out _⟩
              · by_cases hy : y < 0
                · have HF := Lib.hid (HNo.out a b hal hbl (by rw [HP.out]; simp [hy]))
                  go_wp2_with (first | (go_at_call 29; refine (aft_call (HJ.out _)).mono ?_; rintro e _ ⟨rfl, j, rfl⟩) | (go_at_call 30; refine (aft_call (HN.out _)).mono ?_; rintro e _ ⟨rfl, j, rfl⟩))
                  go_ret
                  exact ⟨ret_int HF.out.symm, HFin.out _⟩
                · have HOk := Lib.hid (show rPairOk L a b = true by rw [HP.out]; simp [hx, hy])
                  go_wp2_with (first | (go_at_call 29; refine (aft_call (HJ.out _)).mono ?_; rintro e _ ⟨rfl, j, rfl⟩) | (go_at_call 30; refine (aft_call (HN.out _)).mono ?_; rintro e _ ⟨rfl, j, rfl⟩))
                  go_roundw
                  case rel => exact ⟨b + 1, by omega, by go_num, all_range_snoc _ _ HAb.out HOk.out, _, rfl⟩
                  case measure => simp [intOf]; omega
            · have : b = L.up.length := by omega
              subst this
              go_wp2
              go_roundw
              case rel => exact ⟨a + 1, by omega, by go_num, all_range_snoc _ _ HA.out HAb.out, _, rfl⟩
              case measure => simp [intOf]; omega
        · have : a = L.up.length := by omega
          subst this
          have HF := Lib.hid (HYes.out HA.out)
          go_wp2
          go_ret
          exact ⟨ret_int HF.out.symm, HFin.out _⟩
end Go.Proofs.YtmcafcgbbhcjhaaDoor
