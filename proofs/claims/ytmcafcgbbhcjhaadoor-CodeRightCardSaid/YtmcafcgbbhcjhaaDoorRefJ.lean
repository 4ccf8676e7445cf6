/- reticentref01: may. -/
import Derived.Test.YtmcafcgbbhcjhaaDoorRefG
namespace Go.Proofs.YtmcafcgbbhcjhaaDoor
open Go.RowKit Go.Shelf Go.Proofs.YtmcafcgbbhcjhaaDoorW.PrintWords
attribute [local go_sem] Oper.semAt_some

def noDup (L : Lat) (k : Nat) : Bool := !decide (0 ≤ idxOf (fun x => decide (nth ByteArray.empty L.names k = x)) (L.names.take k))
theorem dup_at {L : Lat} {k j : Nat} (hk : k ≤ L.names.length) (hj : j < k) (h : nth ByteArray.empty L.names j = nth ByteArray.empty L.names k) : okAt L k = false := by
  have hn : ¬ idxOf (fun x => decide (nth ByteArray.empty L.names k = x)) (L.names.take k) < 0 := by
    rw [idxOf_neg, List.all_eq_true]
    intro hall
    have hm : nth ByteArray.empty L.names j ∈ L.names.take k := by
      rw [nth_get _ (by omega)]
      exact List.mem_take_iff_getElem.2 ⟨j, by omega, rfl⟩
    have := hall _ hm
    simp [h] at this
  unfold okAt
  rw [decide_eq_true (show 0 ≤ idxOf (fun x => decide (nth ByteArray.empty L.names k = x)) (L.names.take k) by omega)]
  simp
theorem ok_here {L : Lat} {k : Nat} (h1 : nameOk (nth ByteArray.empty L.names k) = true) (h2 : highB (upAt L k) L.up.length = false) (h3 : (List.range k).all (fun j => !decide (nth ByteArray.empty L.names j = nth ByteArray.empty L.names k)) = true) (hk : k < L.names.length) : okAt L k = true := by
  have hn : idxOf (fun x => decide (nth ByteArray.empty L.names k = x)) (L.names.take k) < 0 := by
    rw [idxOf_neg, List.all_eq_true]
    intro x hx
    obtain ⟨j, hj, rfl⟩ := List.mem_take_iff_getElem.1 hx
    have := List.all_eq_true.1 h3 j (List.mem_range.2 (by omega))
    rw [nth_get _ (show j < L.names.length by omega)] at this
    simp only [Bool.not_eq_true', decide_eq_false_iff_not] at this ⊢
    exact fun e => this e.symm
  unfold highB at h2
  unfold okAt
  rw [h1, decide_eq_false (show ¬ 0 ≤ idxOf (fun x => decide (nth ByteArray.empty L.names k = x)) (L.names.take k) by omega)]
  simpa using h2
theorem name_no' {L : Lat} {k : Nat} (h : nameOk (nth ByteArray.empty L.names k) = false) : okAt L k = false := by unfold okAt; rw [h]; rfl
theorem high_no {L : Lat} {k : Nat} (h : highB (upAt L k) L.up.length = true) : okAt L k = false := by
  unfold highB at h
  unfold okAt
  have : decide (upAt L k / 2 ^ L.up.length = 0) = false := by simpa using h
  rw [this, Bool.and_false]
set_option maxRecDepth 100000 in
set_option maxHeartbeats 2000000 in
theorem rMay_any {w : World} {An Au : Option Addr} {cn cu : Nat} {L : Lat} (hL : LatAt w An cn Au cu L) :
    Calls Tryd.prog 27 #[.agg #[.slice An L.names.length cn, .slice Au L.up.length cu]] w fun e w' => e = .returned (.bool (mayB L)) ∧ Below w.heap.size w w' := by
  have hm := hL.lenu
  have hm2 := hL.lenn
  have HL := Lib.hid hL
  clear hL
  by_cases h1 : 1 ≤ L.up.length ∧ L.up.length ≤ 8
  · obtain ⟨h1, h8⟩ := h1
    by_cases h2 : L.names.length = L.up.length
    · have hq : ((L.names.length : Int) != (L.up.length : Int)) = false := by rw [bne_eq_false_iff_eq]; omega
      have H2 := Lib.hid h2
      have h2' : L.names.length ≤ L.up.length := by omega
      have h2'' : L.up.length ≤ L.names.length := by omega
      have hn := HL.out.hn
      clear h2
      generalize hWb : w.alloc (.cells #[.slice An L.names.length cn, .slice Au L.up.length cu] 25) = WB
      have HWB := Lib.hid hWb
      have HB0 := Lib.hid (show Below w.heap.size w WB by rw [← hWb]; exact below_new _)
      have hs0 : WB.heap.size = w.heap.size + 1 := by rw [← hWb]; simp
      have HS0 := Lib.hid hs0
      have HC0 := Lib.hid (show WB.cell? ⟨w.heap.size, 0, none⟩ = some (.slice An L.names.length cn) by rw [← hWb]; simp [go_sem])
      have HC1 := Lib.hid (show WB.cell? ⟨w.heap.size, 1, none⟩ = some (.slice Au L.up.length cu) by rw [← hWb]; simp [go_sem])
      have HLB := Lib.hid (HL.out.below HB0.out)
      have HK : Hid (∀ W : World, Below WB.heap.size WB W → W.cell? ⟨w.heap.size, 0, none⟩ = some (.slice An L.names.length cn) ∧ W.cell? ⟨w.heap.size, 1, none⟩ = some (.slice Au L.up.length cu) ∧ w.heap.size < W.heap.size) := Lib.hid (fun W hb =>
        ⟨(hb.cell (p := ⟨w.heap.size, 0, none⟩) (by rw [HS0.out]; simp)).trans HC0.out, (hb.cell (p := ⟨w.heap.size, 1, none⟩) (by rw [HS0.out]; simp)).trans HC1.out, Nat.lt_of_lt_of_le (by rw [HS0.out]; omega) hb.size⟩)
      have HFin : Hid (∀ W : World, Below WB.heap.size WB W → Below w.heap.size w W) := Lib.hid (fun W hb => below_step HB0.out HB0.out.size hb)
      clear hWb hs0
      go_enter Tryd.func27, Tryd.ntmps27
      go_wp2
      rw [HWB.out]
      go_loopw [29] (fun i wr => ∃ k : Nat, k ≤ L.names.length ∧ i = .int .i64 k ∧ (List.range k).all (okAt L) = true ∧ Below WB.heap.size WB wr) (fun i wr => L.names.length - (intOf i).toNat)
      case atStart => exact ⟨0, Nat.zero_le _, rfl, rfl, Below.refl _ _⟩
      case round =>
        obtain ⟨k, hk, rfl, hall, hB⟩ := hrel
        have HA := Lib.hid hall
        have HB := Lib.hid hB
        obtain ⟨hc0, hc1, hsz⟩ := HK.out _ hB
        clear hall hB
        by_cases hlt : k < L.names.length
        · obtain ⟨ad, rfl, hc, hblk⟩ := at_str (HLB.out.names) hlt
          obtain ⟨ad2, rfl, hc2, hblk2⟩ := HLB.out.at_up (k := k) (by omega)
          have hcw := (HB.out.cell hblk).trans hc
          have hc2w := (HB.out.cell hblk2).trans hc2
          have hbw := Nat.lt_of_lt_of_le hblk HB.out.size
          have hb2w := Nat.lt_of_lt_of_le hblk2 HB.out.size
          have HC := Lib.hid hc
          have HC2 := Lib.hid hc2
          clear hc hc2
          have hu := HL.out.upAt_lt k
          have hku : (k : Int) < (L.up.length : Int) := by omega
          have HS := Lib.hid (HL.out.hs _ (nth_mem ByteArray.empty hlt))
          cases e1 : nameOk (nth ByteArray.empty L.names k) with
          | false =>
            have HF := Lib.hid (show mayB L = false from mayB_no hlt (name_no' e1))
            have E1 := Lib.hid e1
            clear e1
            have HN := Lib.hid (fun W => rName_any (nth ByteArray.empty L.names k) W HS.out)
            rw [E1.out] at HN
            go_wp2_with fail
            refine wp_region_later (by kernel_rfl) (by kernel_rfl) ?_
            repeat (first | go_big_quiet_skip | quiet_step ((go_at_call 64; exact aft_call_same (HN.out _))))
            refine wpQuiet_nil ?_
            rintro _ ⟨i, rfl⟩
            have HBi := Lib.hid (HFin.out _ (below_step HB.out HB.out.size i.below))
            generalize i.w = wi at *
            go_wp2
            go_ret
            exact ⟨ret_bool HF.out.symm, HBi.out⟩
          | true =>
            have E1 := Lib.hid e1
            clear e1
            have HN := Lib.hid (fun W => rName_any (nth ByteArray.empty L.names k) W HS.out)
            rw [E1.out] at HN
            cases e2 : highB (upAt L k) L.up.length with
            | true =>
              have HF := Lib.hid (show mayB L = false from mayB_no hlt (high_no e2))
              have E2 := Lib.hid e2
              clear e2
              have HH := Lib.hid (fun W => rHigh_any (upAt L k) L.up.length hu (by omega) W)
              rw [E2.out] at HH
              go_wp2_with fail
              refine wp_region_later (by kernel_rfl) (by kernel_rfl) ?_
              repeat (first | go_big_quiet_skip | quiet_step ((first | (go_at_call 64; exact aft_call_same (HN.out _)) | (go_at_call 65; exact aft_call_same (HH.out _)))))
              refine wpQuiet_nil ?_
              rintro _ ⟨i, rfl⟩
              have HBi := Lib.hid (HFin.out _ (below_step HB.out HB.out.size i.below))
              generalize i.w = wi at *
              go_wp2
              go_ret
              exact ⟨ret_bool HF.out.symm, HBi.out⟩
            | false =>
              have E2 := Lib.hid e2
              clear e2
              have HH := Lib.hid (fun W => rHigh_any (upAt L k) L.up.length hu (by omega) W)
              rw [E2.out] at HH
              go_wp2_with fail
              refine wp_region_later (by kernel_rfl) (by kernel_rfl) ?_
              repeat (first | go_big_quiet_skip | quiet_step ((first | (go_at_call 64; exact aft_call_same (HN.out _)) | (go_at_call 65; exact aft_call_same (HH.out _)))))
              refine wpQuiet_nil ?_
              rintro _ ⟨i, rfl⟩
              have HBi := Lib.hid (below_step HB.out HB.out.size i.below)
              generalize i.w = wi at *
              clear hc0 hc1 hsz hcw hc2w hbw hb2w
              obtain ⟨hc0, hc1, hsz⟩ := HK.out _ HBi.out
              go_wp2
              go_loop [53] (fun i => ∃ j : Nat, j ≤ k ∧ i = .int .i64 j ∧ (List.range j).all (fun j => !decide (nth ByteArray.empty L.names j = nth ByteArray.empty L.names k)) = true) (fun i => k - (intOf i).toNat)
              case atStart => exact ⟨0, Nat.zero_le _, rfl, rfl⟩
              case round =>
                obtain ⟨j, hj, rfl, hall⟩ := hrel
                have HJ := Lib.hid hall
                clear hall
                by_cases hjk : j < k
                · obtain ⟨ad', ea, hcj, hbj⟩ := at_str (HLB.out.names) (show j < L.names.length by omega)
                  cases ea
                  have hcj' := (HBi.out.cell hbj).trans hcj
                  have hbj' := Nat.lt_of_lt_of_le hbj HBi.out.size
                  clear hcj
                  by_cases he : nth ByteArray.empty L.names j = nth ByteArray.empty L.names k
                  · have HF := Lib.hid (show mayB L = false from mayB_no hlt (dup_at (by omega) hjk he))
                    have he' : ((nth ByteArray.empty L.names j).toList == (nth ByteArray.empty L.names k).toList) = true := by rw [ba_tl]; exact decide_eq_true he
                    clear he
                    go_wp2
                    go_ret
                    exact ⟨ret_bool HF.out.symm, HFin.out _ HBi.out⟩
                  · have HJ2 := Lib.hid (all_range_snoc _ _ HJ.out (show (!decide (nth ByteArray.empty L.names j = nth ByteArray.empty L.names k)) = true by simp [he]))
                    have he' : ((nth ByteArray.empty L.names j).toList == (nth ByteArray.empty L.names k).toList) = false := by rw [ba_tl]; exact decide_eq_false he
                    clear he
                    go_wp2
                    go_round
                    case rel => exact ⟨j + 1, by omega, by go_num, HJ2.out⟩
                    case measure => simp [intOf]; omega
                · have : j = k := by omega
                  subst this
                  have HOk := Lib.hid (ok_here E1.out E2.out HJ.out hlt)
                  go_wp2
                  go_roundw
                  case rel => exact ⟨j + 1, by omega, by go_num, all_range_snoc _ _ HA.out HOk.out, HBi.out⟩
                  case measure => simp [intOf]; omega
        · have : k = L.names.length := by omega
          subst this
          have HF := Lib.hid (show mayB L = true by
            unfold mayB
            rw [HA.out, H2.out]
            simp [h1, h8])
          go_wp2
          go_ret
          exact ⟨ret_bool HF.out.symm, HFin.out _ HB.out⟩
    · have hq : ((L.names.length : Int) != (L.up.length : Int)) = true := by rw [bne_iff_ne]; omega
      have hf : mayB L = false := by simp [mayB, h2]
      have HF := Lib.hid hf
      clear hf h2
      go_enter Tryd.func27, Tryd.ntmps27
      go_wp2
      go_ret
      exact ⟨ret_bool HF.out.symm, below_new _⟩
  · have hf : mayB L = false := by
      unfold mayB
      by_cases ha : 1 ≤ L.up.length
      · have : ¬ L.up.length ≤ 8 := fun h => h1 ⟨ha, h⟩
        simp [this]
      · simp [ha]
    have HF := Lib.hid hf
    clear hf
    rcases Nat.lt_or_ge L.up.length 1 with h3 | h3
    · clear h1
      go_enter Tryd.func27, Tryd.ntmps27
      go_wp2
      go_ret
      exact ⟨ret_bool HF.out.symm, below_new _⟩
    · have h4 : 8 < L.up.length := by omega
      clear h1
      go_enter Tryd.func27, Tryd.ntmps27
      go_wp2
      go_ret
      exact ⟨ret_bool HF.out.symm, below_new _⟩
end Go.Proofs.YtmcafcgbbhcjhaaDoor
